/-
  A region whose order is drawn: every order gives the same.
-/
import Derived.Test.YtfmojojicndbcaaAxQ
namespace Go.Ax
open Go.RowKit

section
variable {P : Program} {B0 : Nat} {w0 : World} {G : Ghost} {k nl : Nat} {w : World} {s : Sig}

def coreA (call : CallF) (o : AOper) (ρ : Nat → AV) (m : Sig) : Option (AV × Sig) :=
  if wantedT ρ o.guard then opv call (evalT ρ) m o.op else some (AV.undef, m)

theorem stepA_core (call : CallF) (o : AOper) (st : St) : stepA call o st = (coreA call o st.tmps st.sig).map fun p => ⟨putT st.tmps o.dst p.1, p.2⟩ := by
  unfold stepA coreA
  split
  · split
    · rename_i h; simp [h]
    · rename_i h; simp [h]
  · rfl

theorem coreA_agree {call : CallF} {o : AOper} {ρ ρ' : Nat → AV} (h : agreeOn (readsOf o) ρ ρ') (m : Sig) : coreA call o ρ m = coreA call o ρ' m := by
  have h1 : agreeOn (readsOp o.op) ρ ρ' := agree_left h
  have h2 : wantedT ρ o.guard = wantedT ρ' o.guard := by
    have h2 := agree_right h
    cases hg : o.guard with
    | none => rfl
    | some p =>
      obtain ⟨t, b⟩ := p
      rw [hg] at h2
      simp only [wantedT]
      rw [h2 t (by simp)]
  simp only [coreA, h2, opv_agree h1]

/-- One of the two is pure, or they are a load and a load, or a load and what leaves the boxes as they are. -/
def mayPass (a b : OpClass) : Bool :=
  match a, b with
  | .pure, _ | _, .pure | .load, .load | .load, .soft | .soft, .load | .load, .fresh => true
  | _, _ => false

theorem core_pure {call : CallF} {o : AOper} (h : classOf o.op = .pure) (ρ : Nat → AV) : ∃ r : Option AV, ∀ m, coreA call o ρ m = r.map (·, m) := by
  obtain ⟨f, hf⟩ := opv_pure (call := call) h
  by_cases hw : wantedT ρ o.guard = true
  · exact ⟨f (evalT ρ), fun m => by simp only [coreA, if_pos hw, hf]⟩
  · exact ⟨some AV.undef, fun m => by simp only [coreA, if_neg hw]; rfl⟩

theorem core_load {call : CallF} {o : AOper} (h : classOf o.op = .load) (ρ : Nat → AV) {m m' : Sig} (hs : SameBoxes m m') : ∃ r : Option AV, coreA call o ρ m = r.map (·, m) ∧ coreA call o ρ m' = r.map (·, m') := by
  by_cases hw : wantedT ρ o.guard = true
  · obtain ⟨r, h1, h2⟩ := opv_load (call := call) h (ρ := evalT ρ) hs
    exact ⟨r, by simp only [coreA, if_pos hw, h1], by simp only [coreA, if_pos hw, h2]⟩
  · exact ⟨some AV.undef, by simp only [coreA, if_neg hw]; rfl, by simp only [coreA, if_neg hw]; rfl⟩

theorem core_soft {call : CallF} {o : AOper} (h : classOf o.op = .soft) {ρ : Nat → AV} {m m' : Sig} {x : AV} (ho : coreA call o ρ m = some (x, m')) : SameBoxes m m' := by
  unfold coreA at ho
  split at ho
  · exact opv_soft h ho
  · injection ho with ho
    injection ho with _ ho
    subst ho
    exact fun _ _ => rfl

theorem core_fresh {call : CallF} {o : AOper} (h : classOf o.op = .fresh) {ρ : Nat → AV} {m m' : Sig} {x : AV} (ho : coreA call o ρ m = some (x, m')) : Grows m m' := by
  unfold coreA at ho
  split at ho
  · exact opv_fresh h ho
  · injection ho with ho
    injection ho with _ ho
    subst ho
    exact fun _ _ _ e => e

theorem core_load_grows {call : CallF} {o : AOper} (h : classOf o.op = .load) {ρ : Nat → AV} {m m1 : Sig} {v : AV} (ho : coreA call o ρ m = some (v, m1)) : m1 = m ∧ ∀ m', Grows m m' → coreA call o ρ m' = some (v, m') := by
  unfold coreA at ho ⊢
  split at ho
  · rename_i hw
    obtain ⟨h1, h2⟩ := opv_load_grows h ho
    exact ⟨h1, fun m' hg => by rw [if_pos hw]; exact h2 m' hg⟩
  · rename_i hw
    injection ho with ho
    injection ho with h1 h2
    subst h1 h2
    exact ⟨rfl, fun m' _ => by rw [if_neg hw]⟩

theorem core_swap {call : CallF} {x y : AOper} (h : mayPass (classOf x.op) (classOf y.op) = true) {ρ : Nat → AV} {m m1 m2 : Sig} {u v : AV} (h1 : coreA call x ρ m = some (v, m1)) (h2 : coreA call y ρ m1 = some (u, m2)) :
    ∃ m1', coreA call y ρ m = some (u, m1') ∧ coreA call x ρ m1' = some (v, m2) := by
  have xp : classOf x.op = .pure → ∃ m1', coreA call y ρ m = some (u, m1') ∧ coreA call x ρ m1' = some (v, m2) := fun hx => by
    obtain ⟨r, hr⟩ := core_pure (call := call) hx ρ
    rw [hr] at h1
    obtain ⟨q1, q2⟩ := map_pair h1
    simp only at q1 q2
    subst q2
    exact ⟨m2, h2, by rw [hr, q1]; rfl⟩
  have yp : classOf y.op = .pure → ∃ m1', coreA call y ρ m = some (u, m1') ∧ coreA call x ρ m1' = some (v, m2) := fun hy => by
    obtain ⟨r, hr⟩ := core_pure (call := call) hy ρ
    rw [hr] at h2
    obtain ⟨q1, q2⟩ := map_pair h2
    simp only at q1 q2
    subst q2
    exact ⟨m, by rw [hr, q1]; rfl, h1⟩
  have ly : classOf y.op = .load → SameBoxes m m1 → ∃ m1', coreA call y ρ m = some (u, m1') ∧ coreA call x ρ m1' = some (v, m2) := fun hy hs => by
    obtain ⟨r, r1, r2⟩ := core_load (call := call) hy ρ hs
    rw [r2] at h2
    obtain ⟨q1, q2⟩ := map_pair h2
    simp only at q1 q2
    subst q2
    exact ⟨m, by rw [r1, q1]; rfl, h1⟩
  have lx : classOf x.op = .load → m1 = m ∧ (SameBoxes m m2 → ∃ m1', coreA call y ρ m = some (u, m1') ∧ coreA call x ρ m1' = some (v, m2)) := fun hx => by
    obtain ⟨r, r1, _⟩ := core_load (call := call) (m' := m) hx ρ (fun _ _ => rfl)
    rw [r1] at h1
    obtain ⟨q1, q2⟩ := map_pair h1
    simp only at q1 q2
    subst q2
    refine ⟨rfl, fun hs => ?_⟩
    obtain ⟨r', r1', r2'⟩ := core_load (call := call) hx ρ hs
    refine ⟨m2, h2, ?_⟩
    rw [r2']
    rw [r1'] at r1
    have : r' = r := by
      cases r <;> cases r' <;> simp_all
    rw [this, q1]
    rfl
  cases hx : classOf x.op <;> cases hy : classOf y.op <;> rw [hx, hy] at h <;> first
    | exact xp hx
    | exact yp hy
    | (simp [mayPass] at h; done)
    | skip
  · exact ly hy (by rw [(lx hx).1]; exact fun _ _ => rfl)
  · have := lx hx
    obtain ⟨rfl, f⟩ := this
    exact f (core_soft hy h2)
  · obtain ⟨rfl, f⟩ := core_load_grows hx h1
    exact ⟨m2, h2, f _ (core_fresh hy h2)⟩
  · exact ly hy (core_soft hx h1)

theorem step_swap {call : CallF} {x y : AOper} (h : mayPass (classOf x.op) (classOf y.op) = true) (hd : ∀ t, x.dst = some t → y.dst ≠ some t) (hx : ∀ t, x.dst = some t → t ∉ readsOf y) (hy : ∀ t, y.dst = some t → t ∉ readsOf x)
    {st st1 st2 : St} (h1 : stepA call x st = some st1) (h2 : stepA call y st1 = some st2) : ∃ st1', stepA call y st = some st1' ∧ stepA call x st1' = some st2 := by
  rw [stepA_core] at h1
  obtain ⟨⟨v, m1⟩, c1, h1⟩ := Option.map_eq_some_iff.1 h1
  subst h1
  rw [stepA_core] at h2
  obtain ⟨⟨u, m2⟩, c2, h2⟩ := Option.map_eq_some_iff.1 h2
  subst h2
  simp only at c2
  have put_agree : ∀ (o o' : AOper) (ρ : Nat → AV) (z : AV), (∀ t, o.dst = some t → t ∉ readsOf o') → agreeOn (readsOf o') (putT ρ o.dst z) ρ := fun o o' ρ z ho t ht => by
    cases hdo : o.dst with
    | none => rfl
    | some d =>
      simp only [putT, put]
      rw [if_neg (fun e => ho d hdo (by rw [← e]; exact ht))]
  rw [coreA_agree (put_agree x y st.tmps v hx)] at c2
  obtain ⟨m1', c3, c4⟩ := core_swap h c1 c2
  refine ⟨⟨putT st.tmps y.dst u, m1'⟩, by rw [stepA_core, c3]; rfl, ?_⟩
  rw [stepA_core]
  simp only
  rw [coreA_agree (put_agree y x st.tmps u hy), c4]
  simp only [Option.map_some, Option.some.injEq, St.mk.injEq, and_true]
  cases hdx : x.dst with
  | none => rfl
  | some d =>
    cases hdy : y.dst with
    | none => rfl
    | some d' =>
      have hne : d' ≠ d := fun e => hd d hdx (by rw [hdy, e])
      funext t
      simp only [putT, put]
      by_cases h1 : t = d
      · subst h1
        rw [if_pos rfl, if_neg (Ne.symm hne), if_pos rfl]
      · rw [if_neg h1]
        split <;> rfl

/-! ### The operations by their places -/

def runIx (call : CallF) (as : List AOper) : List Nat → St → Option St
  | [], st => some st
  | i :: r, st => match as[i]? with
    | some o => (stepA call o st).bind (runIx call as r)
    | none => none

theorem runIx_range' (call : CallF) (as : List AOper) : ∀ (l : List AOper) (i : Nat), (∀ j, l[j]? = as[i + j]?) → ∀ st, runIx call as (List.range' i l.length) st = ops call l st
  | [], i, _, st => rfl
  | o :: r, i, h, st => by
    have h0 : as[i]? = some o := by simpa using (h 0).symm
    simp only [List.length_cons, List.range'_succ, runIx, h0, ops_cons]
    congr 1
    funext st1
    exact runIx_range' call as r (i + 1) (fun j => by have := h (j + 1); simpa [Nat.add_assoc, Nat.add_comm 1 j] using this) st1

theorem runIx_range (call : CallF) (as : List AOper) (st : St) : runIx call as (List.range as.length) st = ops call as st := by
  rw [List.range_eq_range']
  exact runIx_range' call as as 0 (by simp) st

def unordered (pre : List Nat) (i j : Nat) : Prop := before pre i j = false ∧ before pre j i = false

theorem drawOk_spec {pre : List Nat} {l : List AOper} (h : drawOk pre l = true) {i j : Nat} {x y : AOper} (hx : l[i]? = some x) (hy : l[j]? = some y) (hlt : i < j) (hu : unordered pre i j) :
    mayPass (classOf x.op) (classOf y.op) = true ∧ (∀ t, x.dst = some t → y.dst ≠ some t) ∧ (∀ t, y.dst = some t → t ∉ readsOf x) ∧ (∀ t, x.dst = some t → t ∉ readsOf y) := by
  have hne : i ≠ j := by omega
  unfold drawOk at h
  rw [Bool.and_eq_true] at h
  have h1 := h.1
  unfold pairsOk at h1
  have mem : ∀ {i : Nat} {x : AOper}, l[i]? = some x → (x, i) ∈ l.zipIdx := fun e => by
    rw [List.mem_zipIdx_iff_getElem?]
    exact e
  have h2 := List.all_eq_true.1 h1 _ (mem hx)
  have h3 := List.all_eq_true.1 h2 _ (mem hy)
  have h4 := List.all_eq_true.1 (List.all_eq_true.1 h1 _ (mem hy)) _ (mem hx)
  have hne' : (i == j) = false := by simpa using hne
  have hne'' : (j == i) = false := by simpa using Ne.symm hne
  have hji : decide (j < i) = false := by simp; omega
  obtain ⟨hu1, hu2⟩ := hu
  simp only [hne', Bool.false_or, Bool.and_eq_true, hu1, hu2, Bool.or_false] at h3
  simp only [hne'', Bool.false_or, Bool.and_eq_true, hu1, hu2, Bool.or_false] at h4
  obtain ⟨⟨a1, a2⟩, a3⟩ := h3
  obtain ⟨⟨_, a4⟩, _⟩ := h4
  refine ⟨?_, fun t ht e => ?_, fun t ht hm => ?_, fun t ht hm => ?_⟩
  · cases hcx : classOf x.op <;> cases hcy : classOf y.op <;> rw [hcx, hcy] at a3 <;> first | rfl | (simp [hji] at a3)
  · rw [ht, e] at a1
    simp at a1
  · rw [ht] at a2
    simp at a2
    exact a2 hm
  · rw [ht] at a4
    simp at a4
    exact a4 hm

theorem unordered.symm {pre : List Nat} {i j : Nat} (h : unordered pre i j) : unordered pre j i := ⟨h.2, h.1⟩

theorem toFront {call : CallF} {pre : List Nat} {as : List AOper} (h : drawOk pre as = true) {i : Nat} {q : List Nat} {f : St} : ∀ (p : List Nat) (st : St), (∀ j, j ∈ p → j < i ∧ unordered pre i j) → runIx call as (p ++ i :: q) st = some f →
    runIx call as (i :: (p ++ q)) st = some f
  | [], st, _, hr => hr
  | j :: p, st, hp, hr => by
    simp only [List.cons_append, runIx] at hr
    split at hr
    · rename_i y hy
      obtain ⟨st1, s1, hr⟩ := Option.bind_eq_some_iff.1 hr
      have hr' := toFront h p st1 (fun j' hj' => hp j' (by simp [hj'])) hr
      simp only [runIx] at hr'
      split at hr'
      · rename_i x hx
        obtain ⟨st2, s2, hr'⟩ := Option.bind_eq_some_iff.1 hr'
        obtain ⟨hlt, hu⟩ := hp j (by simp)
        obtain ⟨d1, d2, d3, d6⟩ := drawOk_spec h hy hx hlt hu.symm
        obtain ⟨st1', t1, t2⟩ := step_swap d1 d2 d6 d3 s1 s2
        simp only [runIx, List.cons_append, hx, hy, t1, Option.bind_some, t2]
        exact hr'
      · cases hr'
    · cases hr

/-! ### Who comes ahead of whom -/

def bindsOf (o : Oper) : List Edge := o.after.toList.filter (Region.binds .any)

theorem foldl_bits {acc : List Nat} {i : Nat} : ∀ (es : List Edge) (m : Nat), (es.foldl (fun m e => m ||| 1 <<< e.on ||| acc.getD e.on 0) m).testBit i = true → m.testBit i = true ∨ ∃ e, e ∈ es ∧ (e.on = i ∨ (acc.getD e.on 0).testBit i = true)
  | [], m, h => .inl h
  | e :: r, m, h => by
    simp only [List.foldl_cons] at h
    rcases foldl_bits r _ h with h | ⟨e', h1, h2⟩
    · rw [Nat.testBit_or, Nat.testBit_or, Bool.or_eq_true, Bool.or_eq_true] at h
      rcases h with (h | h) | h
      · exact .inl h
      · rw [Nat.testBit_shiftLeft] at h
        simp only [Bool.and_eq_true, decide_eq_true_eq] at h
        have := h.2
        have h0 : i - e.on = 0 := by
          cases hq : i - e.on with
          | zero => rfl
          | succ n =>
            rw [hq, Nat.testBit_succ] at this
            simp at this
        exact .inr ⟨e, by simp, .inl (by omega)⟩
      · exact .inr ⟨e, by simp, .inr h⟩
    · exact .inr ⟨e', by simp [h1], h2⟩

theorem preds_spec : ∀ (l : List Oper) (acc pre : List Nat), predsFrom acc l = some pre → (∀ j, j < acc.length → pre.getD j 0 = acc.getD j 0) ∧ pre.length = acc.length + l.length ∧
    ∀ j o, l[j]? = some o → (∀ e, e ∈ bindsOf o → e.on < acc.length + j) ∧ ∀ i, (pre.getD (acc.length + j) 0).testBit i = true → ∃ e, e ∈ bindsOf o ∧ (e.on = i ∨ (pre.getD e.on 0).testBit i = true)
  | [], acc, pre, h => by
    simp only [predsFrom] at h
    injection h with h
    subst h
    exact ⟨fun _ _ => rfl, rfl, fun j o hj => by simp at hj⟩
  | o :: r, acc, pre, h => by
    simp only [predsFrom] at h
    split at h
    · rename_i hall
      obtain ⟨h1, h2, h3⟩ := preds_spec r _ pre h
      simp only [List.length_append, List.length_cons, List.length_nil] at h1 h2 h3
      have hall' : ∀ e, e ∈ bindsOf o → e.on < acc.length := fun e he => by simpa using List.all_eq_true.1 hall e he
      refine ⟨fun j hj => ?_, by simp only [List.length_cons]; omega, fun j o' hj => ?_⟩
      · rw [h1 j (by omega)]
        simp [List.getD_eq_getElem?_getD, List.getElem?_append_left hj]
      · cases j with
        | zero =>
          simp only [List.getElem?_cons_zero, Option.some.injEq] at hj
          subst hj
          refine ⟨fun e he => by have := hall' e he; omega, fun i hi => ?_⟩
          rw [Nat.add_zero, h1 acc.length (by omega)] at hi
          have hv : (acc ++ [(bindsOf o).foldl (fun m e => m ||| 1 <<< e.on ||| acc.getD e.on 0) 0]).getD acc.length 0 = (bindsOf o).foldl (fun m e => m ||| 1 <<< e.on ||| acc.getD e.on 0) 0 := by
            simp [List.getD_eq_getElem?_getD]
          have hi' : ((bindsOf o).foldl (fun m e => m ||| 1 <<< e.on ||| acc.getD e.on 0) 0).testBit i = true := by
            rw [← hv]
            exact hi
          rcases foldl_bits _ _ hi' with h0 | ⟨e, e1, e2⟩
          · simp at h0
          · refine ⟨e, e1, e2.imp id fun e3 => ?_⟩
            rw [h1 e.on (by have := hall' e e1; omega)]
            have : (acc ++ [(bindsOf o).foldl (fun m e => m ||| 1 <<< e.on ||| acc.getD e.on 0) 0]).getD e.on 0 = acc.getD e.on 0 := by
              simp [List.getD_eq_getElem?_getD, List.getElem?_append_left (hall' e e1)]
            exact (congrArg (fun q => Nat.testBit q i) this).trans e3
        | succ j =>
          simp only [List.getElem?_cons_succ] at hj
          obtain ⟨g1, g2⟩ := h3 j o' hj
          refine ⟨fun e he => by have := g1 e he; omega, fun i hi => g2 i ?_⟩
          have : acc.length + 1 + j = acc.length + (j + 1) := by omega
          rw [this]
          exact hi
    · cases h

/-- What lies ahead of what lies ahead. -/
structure PreOk (l : List Oper) (pre : List Nat) : Prop where
  len : pre.length = l.length
  edge : ∀ j o, l[j]? = some o → ∀ e, e ∈ bindsOf o → e.on < j
  why : ∀ j o, l[j]? = some o → ∀ i, before pre i j = true → ∃ e, e ∈ bindsOf o ∧ (e.on = i ∨ before pre i e.on = true)

theorem preOk_of {l : List Oper} {pre : List Nat} (h : predsFrom [] l = some pre) : PreOk l pre := by
  obtain ⟨_, h2, h3⟩ := preds_spec l [] pre h
  simp only [List.length_nil, Nat.zero_add] at h2 h3
  exact ⟨h2, fun j o hj => (h3 j o hj).1, fun j o hj i hi => (h3 j o hj).2 i hi⟩

theorem PreOk.lt {l : List Oper} {pre : List Nat} (h : PreOk l pre) : ∀ (j i : Nat), before pre i j = true → i < j := by
  intro j
  induction j using Nat.strongRecOn with
  | _ j ih =>
    intro i hi
    by_cases hj : j < l.length
    · obtain ⟨e, e1, e2⟩ := h.why j _ (List.getElem?_eq_getElem hj) i hi
      have := h.edge j _ (List.getElem?_eq_getElem hj) e e1
      rcases e2 with e2 | e2
      · omega
      · have := ih e.on this i e2
        omega
    · have : pre.getD j 0 = 0 := by
        rw [List.getD_eq_getElem?_getD, List.getElem?_eq_none (by rw [h.len]; omega)]
        rfl
      simp only [before, this, Nat.zero_testBit] at hi
      cases hi

/-- The places that are still to come. -/
def remIx (n : Nat) (listed : Array Bool) : List Nat := (List.range n).filter fun j => !listed.getD j true

theorem mem_remIx {n j : Nat} {listed : Array Bool} : j ∈ remIx n listed ↔ j < n ∧ listed.getD j true = false := by
  simp [remIx, List.mem_filter]

theorem remIx_split {n i : Nat} {listed : Array Bool} (hi : i ∈ remIx n listed) : ∃ p q, remIx n listed = p ++ i :: q ∧ remIx n (listed.setIfInBounds i true) = p ++ q ∧ ∀ j, j ∈ p → j < i ∧ listed.getD j true = false := by
  obtain ⟨h1, h2⟩ := mem_remIx.1 hi
  refine ⟨(List.range i).filter fun j => !listed.getD j true, (List.range' (i + 1) (n - (i + 1))).filter fun j => !listed.getD j true, ?_, ?_, fun j hj => ?_⟩
  · have hr : List.range n = List.range i ++ i :: List.range' (i + 1) (n - (i + 1)) := by
      rw [List.range_eq_range', List.range_eq_range', show n = i + (n - (i + 1) + 1) by omega, ← List.range'_append_1]
      simp [List.range'_succ]
      omega
    rw [remIx, hr, List.filter_append, List.filter_cons]
    simp [h2]
  · have hr : List.range n = List.range i ++ i :: List.range' (i + 1) (n - (i + 1)) := by
      rw [List.range_eq_range', List.range_eq_range', show n = i + (n - (i + 1) + 1) by omega, ← List.range'_append_1]
      simp [List.range'_succ]
      omega
    have hs : (listed.setIfInBounds i true).getD i true = true := by
      by_cases hlt : i < listed.size
      · simp [Array.getD, hlt]
      · simp [Array.getD, hlt]
    rw [remIx, hr, List.filter_append, List.filter_cons]
    simp only [hs, Bool.not_true, Bool.false_eq_true, if_false]
    congr 1
    · refine List.filter_congr fun j hj => ?_
      rw [getD_set_ne true (by have := List.mem_range.1 hj; omega)]
    · refine List.filter_congr fun j hj => ?_
      rw [getD_set_ne true (by have := List.mem_range'_1.1 hj; omega)]
  · rw [List.mem_filter, List.mem_range] at hj
    exact ⟨hj.1, by simpa using hj.2⟩

theorem compOpers_get {all : List Oper} {ro : Nat → Bool} : ∀ (l : List Oper) (i : Nat) (al : List AOper), compOpers P all ro i l = some al → al.length = l.length ∧ ∀ j o, l[j]? = some o → ∃ ao, al[j]? = some ao ∧ ao.dst = o.dst ∧ compGuard all o.guard = some ao.guard ∧ compOp P (ro (i + j)) o.op = some ao.op
  | [], i, al, h => by
    simp only [compOpers] at h
    injection h with h
    subst h
    exact ⟨rfl, fun j o hj => by simp at hj⟩
  | o :: r, i, al, h => by
    simp only [compOpers] at h
    split at h
    · rename_i g op rest e1 e2 e3
      injection h with h
      subst h
      obtain ⟨h1, h2⟩ := compOpers_get r (i + 1) rest e3
      refine ⟨by simp [h1], fun j o' hj => ?_⟩
      cases j with
      | zero =>
        simp only [List.getElem?_cons_zero, Option.some.injEq] at hj
        subst hj
        exact ⟨_, rfl, rfl, e1, e2⟩
      | succ j =>
        obtain ⟨ao, a1, a2, a3, a4⟩ := h2 j o' (by simpa using hj)
        exact ⟨ao, by simpa using a1, a2, a3, by rw [← a4]; congr 2; omega⟩
    · cases h

theorem drawn_sound {call : CallF} (hcall : CallSound P B0 w0 call) (hro : RoOk call) {rd : Option Nat} {n : Nat} {all : Array Oper} {ro : Nat → Bool} {as : List AOper} {pre : List Nat} (hc : compOpers P all.toList ro 0 all.toList = some as)
    (hpre : PreOk all.toList pre) (hok : drawOk pre as = true) {f : St} {Q : Exit → Act → World → Prop} : ∀ (fuel : Nat) (listed : Array Bool) (G : Ghost) (st : St) (a : Act) (w : World),
    listed.size = all.size → (remIx all.size listed).length ≤ fuel → (∀ i j, listed.getD j false = true → before pre i j = true → listed.getD i false = true) → runIx call as (remIx all.size listed) st = some f →
    At P B0 w0 G k nl st.sig w → TmpsRel G k nl st.tmps a → (∀ o, o ∈ as → ∀ t, o.dst = some t → t < a.tmps.size) → (∀ a' w', PostTo P B0 w0 G k nl st.sig a f a' w' → Q .normal a' w') →
    wpAnyIn (fenceOf rd) n P .any all Q fuel listed a w := by
  -- none is ready: none is left
  have hnone : ∀ (listed : Array Bool), listed.size = all.size → Region.ready .any all listed = [] → remIx all.size listed = [] := fun listed hsz hr => by
    have key : ∀ j, j < all.size → listed.getD j true = true := fun j => by
      induction j using Nat.strongRecOn with
      | _ j ih =>
        intro hj
        cases hl : listed.getD j true with
        | true => rfl
        | false =>
          exfalso
          have : j ∈ Region.ready .any all listed := by
            rw [mem_ready]
            refine ⟨hl, all[j], Array.getElem?_eq_getElem hj, fun e he hb => ?_⟩
            have hlt := hpre.edge j all[j] (by simp [hj]) e (by simp [bindsOf, List.mem_filter]; exact ⟨he, hb⟩)
            have := ih e.on hlt (by omega)
            have hlt2 : e.on < listed.size := by omega
            simpa [Array.getD, hlt2] using this
          rw [hr] at this
          cases this
    rw [remIx, List.filter_eq_nil_iff]
    intro j hj
    rw [key j (List.mem_range.1 hj)]
    simp
  have done : ∀ (listed : Array Bool) (G : Ghost) (st : St) (a : Act) (w : World), listed.size = all.size → Region.ready .any all listed = [] → runIx call as (remIx all.size listed) st = some f → At P B0 w0 G k nl st.sig w → TmpsRel G k nl st.tmps a →
      (∀ a' w', PostTo P B0 w0 G k nl st.sig a f a' w' → Q .normal a' w') → Q .normal a w := fun listed G st a w hsz hr hrun h hR hQ => by
    rw [hnone listed hsz hr] at hrun
    simp only [runIx] at hrun
    injection hrun with hrun
    subst hrun
    exact hQ a w ⟨G, h, .refl _ _ _, rfl, hR, rfl, rfl⟩
  intro fuel
  induction fuel with
  | zero =>
    intro listed G st a w hsz hlen hcl hrun h hR hd hQ
    have hr0 : Region.ready .any all listed = [] := by
      cases hr : Region.ready .any all listed with
      | nil => rfl
      | cons i r =>
        exfalso
        have hi : i ∈ Region.ready .any all listed := by rw [hr]; simp
        obtain ⟨h1, o, h2, _⟩ := mem_ready.1 hi
        have : i ∈ remIx all.size listed := mem_remIx.2 ⟨(Array.getElem?_eq_some_iff.1 h2).1, h1⟩
        have h0 : remIx all.size listed = [] := List.eq_nil_of_length_eq_zero (by omega)
        rw [h0] at this
        cases this
    exact ⟨hr0, done listed G st a w hsz hr0 hrun h hR hQ⟩
  | succ fuel ih =>
    intro listed G st a w hsz hlen hcl hrun h hR hd hQ
    refine ⟨fun hr => done listed G st a w hsz hr hrun h hR hQ, fun i hi => ?_⟩
    obtain ⟨h1, o, h2, hafter⟩ := mem_ready.1 hi
    have hlt : i < all.size := (Array.getElem?_eq_some_iff.1 h2).1
    have hmem : i ∈ remIx all.size listed := mem_remIx.2 ⟨hlt, h1⟩
    obtain ⟨p, q, e1, e2, e3⟩ := remIx_split hmem
    have ho : all.toList[i]? = some o := by simpa using h2
    -- what lies ahead of i is listed
    have hahead : ∀ j, before pre j i = true → listed.getD j false = true := fun j hj => by
      obtain ⟨e, c1, c2⟩ := hpre.why i o ho j hj
      have he : e ∈ o.after ∧ Region.binds .any e = true := by
        simp only [bindsOf, List.mem_filter] at c1
        exact ⟨by simpa using c1.1, c1.2⟩
      have hl := hafter e he.1 he.2
      rcases c2 with c2 | c2
      · rw [← c2]; exact hl
      · exact hcl j e.on hl c2
    have hfront : runIx call as (i :: (p ++ q)) st = some f := by
      refine toFront hok p st (fun j hj => ?_) (by rw [← e1]; exact hrun)
      obtain ⟨j1, j2⟩ := e3 j hj
      refine ⟨by omega, ?_, ?_⟩
      · cases hb : before pre i j with
        | false => rfl
        | true => have := hpre.lt j i hb; omega
      · cases hb : before pre j i with
        | false => rfl
        | true =>
          exfalso
          have := hahead j hb
          have hjs : j < listed.size := by omega
          simp [Array.getD, hjs] at this j2
          rw [this] at j2
          cases j2
    obtain ⟨g1, g2⟩ := compOpers_get _ 0 as hc
    obtain ⟨ao, a1, a2, a3, a4⟩ := g2 i o ho
    simp only [runIx, a1] at hfront
    obtain ⟨st1, s1, s2⟩ := Option.bind_eq_some_iff.1 hfront
    unfold wpOpIn
    simp only [h2]
    have hall : all = all.toList.toArray := by simp
    have hstep := op_step hcall hro (rd := rd) (n := n) (all := all.toList) (Q := Q) h hR a3 a4 a2 (fun t ht => hd ao (List.mem_of_getElem? a1) t ht) s1 (K := wpAnyIn (fenceOf rd) n P .any all Q fuel (listed.setIfInBounds i true)) (fun a1' w1 hp => by
      obtain ⟨G1, k1, k2, k3, k4, k5, k6⟩ := hp
      refine ih (listed.setIfInBounds i true) G1 st1 a1' w1 (by simp [hsz]) ?_ ?_ (by rw [e2]; exact s2) k1 k4 (fun o' ho' t ht => by rw [k5]; exact hd o' ho' t ht) (fun a' w' hp' => hQ a' w' ?_)
      · rw [e2]
        rw [e1] at hlen
        simp at hlen ⊢
        omega
      · intro x y hy hxy
        by_cases hyi : y = i
        · subst hyi
          exact getD_set_true (hahead x hxy)
        · rw [getD_set_ne false (Ne.symm hyi)] at hy
          exact getD_set_true (hcl x y hy hxy)
      · obtain ⟨G2, q1, q2, q3, q4, q5, q6⟩ := hp'
        rw [k3] at q2 q3
        exact ⟨G2, q1, k2.trans q2, q3, q4, q5.trans k5, q6.trans k6⟩)
    simpa using hstep

theorem region_sound {call : CallF} (hcall : CallSound P B0 w0 call) (hro : RoOk call) (hm : P.follows .mixedOrders = true) {rd : Option Nat} {n id : Nat} {all : Array Oper} {drawn : Bool} {as : List AOper} {st st' : St} {a : Act}
    (hc : compRegion P all.toList drawn = some as) (h : At P B0 w0 G k nl st.sig w) (hR : TmpsRel G k nl st.tmps a) (hd : ∀ o, o ∈ as → ∀ t, o.dst = some t → t < a.tmps.size) (hs : ops call as st = some st')
    {Q : Exit → Act → World → Prop} (hQ : ∀ a' w', PostTo P B0 w0 G k nl st.sig a st' a' w' → Q .normal a' w') : (Code.region id all drawn).wpIn (fenceOf rd) n P Q a w := by
  cases drawn with
  | false =>
    simp only [compRegion, Bool.false_eq_true, if_false] at hc
    refine wpIn_region_list ?_
    have := ops_sound hcall hro (rd := rd) (n := n) (Q := Q) all.toList 0 as G st st' a w hc h hR hd hs hQ
    simpa using this
  | true =>
    simp only [compRegion, if_true] at hc
    split at hc
    · cases hc
    rename_i pre hpre
    split at hc
    · rename_i as' hco
      split at hc
      · rename_i hok
        injection hc with hc
        subst hc
        have hlen := (compOpers_get _ 0 _ hco).1
        refine wpIn_region_any hm ?_
        have hat : At P B0 w0 G k nl st.sig w.drew := ⟨h.rel.drew, h.len, h.cur⟩
        have hrem : remIx all.size (Array.replicate all.size false) = List.range as'.length := by
          rw [hlen]
          simp only [Array.length_toList, remIx]
          rw [List.filter_eq_self]
          intro j hj
          have := List.mem_range.1 hj
          simp [Array.getD, this]
        have hrun : runIx call as' (remIx all.size (Array.replicate all.size false)) st = some st' := by
          rw [hrem, runIx_range]
          exact hs
        refine drawn_sound hcall hro hco (preOk_of hpre) hok all.size _ G st a _ (by simp) ?_ ?_ hrun hat hR hd hQ
        · rw [hrem, hlen]; simp
        · intro i j hj
          by_cases hlt : j < all.size
          · simp [Array.getD, hlt] at hj
          · simp [Array.getD, hlt] at hj
      · cases hc
    · cases hc

end
end Go.Ax
