/-
  A region in its own order, and one whose order is drawn.
-/
import Derived.Test.YtfmojojicndbcaaAxP
import Derived.TacticsIn
import Derived.OrdersIn
namespace Go.Ax
open Go.RowKit

section
variable {P : Program} {B0 : Nat} {w0 : World} {G : Ghost} {k nl : Nat} {w : World} {s : Sig}

theorem PostTo.trans {a a1 a2 : Act} {st1 st2 : St} {w1 w2 : World} (h : PostTo P B0 w0 G k nl s a st1 a1 w1)
    (h' : ∀ G', At P B0 w0 G' k nl st1.sig w1 → TmpsRel G' k nl st1.tmps a1 → PostTo P B0 w0 G' k nl st1.sig a1 st2 a2 w2) : PostTo P B0 w0 G k nl s a st2 a2 w2 := by
  obtain ⟨G1, h1, h2, h3, h4, h5, h6⟩ := h
  obtain ⟨G2, g1, g2, g3, g4, g5, g6⟩ := h' G1 h1 h4
  rw [h3] at g2 g3
  exact ⟨G2, g1, h2.trans g2, g3, g4, g5.trans h5, g6.trans h6⟩

theorem ops_sound {call : CallF} (hcall : CallSound P B0 w0 call) (hro : RoOk call) {rd : Option Nat} {n : Nat} {all : List Oper} {ro : Nat → Bool} {Q : Exit → Act → World → Prop} : ∀ (l : List Oper) (i : Nat) (al : List AOper) (G : Ghost) (st st' : St) (a : Act) (w : World),
    compOpers P all ro i l = some al → At P B0 w0 G k nl st.sig w → TmpsRel G k nl st.tmps a → (∀ o, o ∈ al → ∀ t, o.dst = some t → t < a.tmps.size) → ops call al st = some st' →
    (∀ a' w', PostTo P B0 w0 G k nl st.sig a st' a' w' → Q .normal a' w') → wpListIn (fenceOf rd) n P all.toArray Q l a w
  | [], i, al, G, st, st', a, w, hc, h, hR, hd, hs, hQ => by
    simp only [compOpers] at hc
    injection hc with hc
    subst hc
    simp only [ops] at hs
    injection hs with hs
    subst hs
    exact hQ a w ⟨G, h, .refl _ _ _, rfl, hR, rfl, rfl⟩
  | o :: r, i, al, G, st, st', a, w, hc, h, hR, hd, hs, hQ => by
    simp only [compOpers] at hc
    split at hc
    · rename_i g op rest e1 e2 e3
      injection hc with hc
      subst hc
      rw [ops_cons] at hs
      obtain ⟨st1, hs1, hs2⟩ := Option.bind_eq_some_iff.1 hs
      unfold wpListIn
      refine op_step hcall hro h hR (ao := ⟨o.dst, g, op⟩) e1 e2 rfl (fun t ht => hd _ (by simp) t ht) hs1 fun a1 w1 hp => ?_
      obtain ⟨G1, g1, g2, g3, g4, g5, g6⟩ := hp
      refine ops_sound hcall hro r (i + 1) rest G1 st1 st' a1 w1 e3 g1 g4 (fun o' ho t ht => by rw [g5]; exact hd o' (by simp [ho]) t ht) hs2 fun a' w' hp' => hQ a' w' ?_
      obtain ⟨G2, q1, q2, q3, q4, q5, q6⟩ := hp'
      rw [g3] at q2 q3
      exact ⟨G2, q1, g2.trans q2, q3, q4, q5.trans g5, q6.trans g6⟩
    · cases hc

/-! ### Two operations that may change places -/

/-- The same boxes. -/
def SameBoxes (m m' : Sig) : Prop := ∀ d b, m'.box d b = m.box d b

theorem SameBoxes.load {m m' : Sig} (h : SameBoxes m m') (agg : Bool) (n : Nat) (x : AV) : m'.load agg n x = m.load agg n x := by
  have : m'.row x = m.row x := by cases x <;> simp [Sig.row, h _ _]
  simp [Sig.load, this]

def agreeOn (l : List Nat) (ρ ρ' : Nat → AV) : Prop := ∀ t, t ∈ l → ρ t = ρ' t

theorem evalT_agree {x : AOpd} {ρ ρ' : Nat → AV} (h : agreeOn (readsOpd x) ρ ρ') : evalT ρ x = evalT ρ' x := by
  cases x with
  | tmp t => exact h t (by simp [readsOpd])
  | const c => rfl

theorem agree_left {l l' : List Nat} {ρ ρ' : Nat → AV} (h : agreeOn (l ++ l') ρ ρ') : agreeOn l ρ ρ' := fun t ht => h t (List.mem_append_left _ ht)
theorem agree_right {l l' : List Nat} {ρ ρ' : Nat → AV} (h : agreeOn (l ++ l') ρ ρ') : agreeOn l' ρ ρ' := fun t ht => h t (List.mem_append_right _ ht)

theorem agree_list {xs : List AOpd} {ρ ρ' : Nat → AV} (h : agreeOn (xs.flatMap readsOpd) ρ ρ') : xs.map (evalT ρ) = xs.map (evalT ρ') := by
  induction xs with
  | nil => rfl
  | cons x r ih =>
    simp only [List.flatMap_cons] at h
    simp only [List.map_cons]
    rw [evalT_agree (agree_left h), ih (agree_right h)]

theorem agree_opt {x : Option AOpd} {ρ ρ' : Nat → AV} (h : agreeOn (readsOpt x) ρ ρ') : evalOpt (evalT ρ) x = evalOpt (evalT ρ') x := by
  cases x with
  | none => rfl
  | some x => simp only [evalOpt]; rw [evalT_agree h]

theorem agree_cells {ps : List (Nat × Nat × AOpd)} {ρ ρ' : Nat → AV} (h : agreeOn (ps.flatMap fun p => readsOpd p.2.2) ρ ρ') (cs : List AV) : buildCells cs (evalT ρ) ps = buildCells cs (evalT ρ') ps := by
  induction ps generalizing cs with
  | nil => rfl
  | cons p r ih =>
    obtain ⟨o, z, x⟩ := p
    simp only [List.flatMap_cons] at h
    simp only [buildCells]
    rw [evalT_agree (agree_left h)]
    split
    · exact ih (agree_right h) _
    · rfl

theorem agree_rows {ps : List (Nat × AOpd)} {ρ ρ' : Nat → AV} (h : agreeOn (ps.flatMap fun p => readsOpd p.2) ρ ρ') (rs : List (List AV)) : buildRows rs (evalT ρ) ps = buildRows rs (evalT ρ') ps := by
  induction ps generalizing rs with
  | nil => rfl
  | cons p r ih =>
    obtain ⟨o, x⟩ := p
    simp only [List.flatMap_cons] at h
    simp only [buildRows]
    rw [evalT_agree (agree_left h)]
    split
    · split
      · exact ih (agree_right h) _
      · rfl
    · rfl

theorem opv_agree {call : CallF} {op : AOp} {ρ ρ' : Nat → AV} (h : agreeOn (readsOp op) ρ ρ') (m : Sig) : opv call (evalT ρ) m op = opv call (evalT ρ') m op := by
  cases op <;> simp only [readsOp] at h <;> simp only [opv] <;> first
    | rfl
    | (rw [evalT_agree h]; done)
    | (rw [evalT_agree (agree_left h), evalT_agree (agree_right h)]; done)
    | (rw [evalT_agree (agree_left (agree_left h)), evalT_agree (agree_right (agree_left h)), evalT_agree (agree_right h)]; done)
    | (rw [agree_cells h]; done)
    | (rw [agree_rows h]; done)
    | (rw [agree_list h]; done)
    | (rw [agree_list (agree_left h), agree_list (agree_right h)]; done)
    | (rw [evalT_agree (agree_left h), agree_list (agree_right h)]; done)
    | (rw [evalT_agree (agree_left (agree_left (agree_left h))), agree_opt (agree_right (agree_left (agree_left h))), agree_opt (agree_right (agree_left h)), agree_opt (agree_right h)]; done)

/-- What a pure operation gives hangs on the temporaries alone. -/
theorem opv_pure {call : CallF} {op : AOp} (h : classOf op = .pure) : ∃ f : (AOpd → AV) → Option AV, ∀ ρ m, opv call ρ m op = (f ρ).map (·, m) := by
  cases op <;> simp only [classOf] at h <;> first
    | (cases h; done)
    | (split at h <;> cases h; done)
    | exact ⟨_, fun ρ m => rfl⟩
    | skip
  case move x => exact ⟨fun ρ => some (ρ x), fun _ _ => rfl⟩
  case build zs ps => exact ⟨fun ρ => (buildCells zs ρ ps).map .agg, fun ρ m => by simp only [opv, Option.map_map]; rfl⟩
  case buildSlice es rs ps => exact ⟨fun ρ => (buildRows rs ρ ps).map (.slice .full es), fun ρ m => by simp only [opv, Option.map_map]; rfl⟩
  case eqv neg kd x y => exact ⟨fun ρ => (eqOp kd (ρ x) (ρ y)).map fun t => .v (.bool (if neg then !t else t)), fun ρ m => by simp only [opv, Option.map_map]; rfl⟩
  case mkFn f a b => exact ⟨fun ρ => if (a.map ρ).all AV.isClosedV then some (.fn f (a.map ρ) (b.map ρ)) else none, fun ρ m => by simp only [opv]; split <;> rfl⟩
  case lenArr n => exact ⟨fun _ => some (AV.int n), fun _ _ => rfl⟩

theorem box_toks {m : Sig} {d : Nat} {f : Rec → Rec} (hf : ∀ r, (f r).boxes = r.boxes) : SameBoxes m (m.onRec d f) := fun d' b => by
  simp only [Sig.box, Sig.onRec, modify_get]
  by_cases h : d = d'
  · subst h
    rw [if_pos rfl]
    cases m.acts[d]? with
    | none => rfl
    | some r => simp [hf]
  · rw [if_neg h]

/-- What is neither pure nor a load, and may stand beside a load unordered: it leaves the boxes as they are. -/
theorem opv_soft {call : CallF} {op : AOp} (h : classOf op = .soft) {ρ : AOpd → AV} {m m' : Sig} {x : AV} (ho : opv call ρ m op = some (x, m')) : SameBoxes m m' := by
  cases op <;> simp only [classOf] at h <;> first | (cases h; done) | skip
  case call ro f as =>
    cases ro
    · cases h
    · simp only [opv, doCall, if_true] at ho
      obtain ⟨p, _, ho⟩ := Option.map_eq_some_iff.1 ho
      injection ho with _ ho
      subst ho
      exact fun _ _ => rfl
  case callv ro f as =>
    cases ro
    · cases h
    · simp only [opv, callvOp] at ho
      split at ho
      · simp only [doCall, if_true] at ho
        obtain ⟨p, _, ho⟩ := Option.map_eq_some_iff.1 ho
        injection ho with _ ho
        subst ho
        exact fun _ _ => rfl
      · simp only [doCall, if_true] at ho
        obtain ⟨p, _, ho⟩ := Option.map_eq_some_iff.1 ho
        injection ho with _ ho
        subst ho
        exact fun _ _ => rfl
      · cases ho
  case append es a b =>
    simp only [opv, appendOp] at ho
    split at ho
    · split at ho
      · injection ho with ho
        injection ho with _ ho
        subst ho
        exact fun _ _ => rfl
      · split at ho
        · split at ho
          · injection ho with ho
            injection ho with _ ho
            subst ho
            exact box_toks fun r => rfl
          · injection ho with ho
            injection ho with _ ho
            subst ho
            exact box_toks fun r => rfl
          · split at ho
            · injection ho with ho
              injection ho with _ ho
              subst ho
              exact box_toks fun r => rfl
            · cases ho
          · cases ho
        · cases ho
    · cases ho

/-- What it does hangs on the boxes alone: a load. -/
theorem opv_load {call : CallF} {op : AOp} (h : classOf op = .load) {ρ : AOpd → AV} {m m' : Sig} (hs : SameBoxes m m') : ∃ r : Option AV, opv call ρ m op = r.map (·, m) ∧ opv call ρ m' op = r.map (·, m') := by
  cases op <;> simp only [classOf] at h <;> first | (cases h; done) | (split at h <;> cases h; done) | skip
  case load agg n x => exact ⟨m.load agg n (ρ x), rfl, by simp only [opv]; rw [hs.load]⟩

/-- What was there is there. -/
def Grows (m m' : Sig) : Prop := ∀ d b cs, m.box d b = some cs → m'.box d b = some cs

theorem Grows.newBox (m : Sig) (cs : List AV) : Grows m (m.newBox cs).2 := fun d b ds h => by
  simp only [Sig.box, Sig.newBox, Sig.addBox, Sig.onRec, modify_get] at h ⊢
  by_cases hd : m.cur = d
  · subst hd
    rw [if_pos rfl]
    cases hr : m.acts[m.cur]? with
    | none => rw [hr] at h; cases h
    | some r =>
      rw [hr] at h
      exact get_old h
  · rw [if_neg hd]
    exact h

theorem opv_fresh {call : CallF} {op : AOp} (h : classOf op = .fresh) {ρ : AOpd → AV} {m m' : Sig} {x : AV} (ho : opv call ρ m op = some (x, m')) : Grows m m' := by
  cases op <;> simp only [classOf] at h <;> first | (cases h; done) | (split at h <;> cases h; done) | skip
  case alloc zs =>
    simp only [opv, Option.some.injEq] at ho
    have := Grows.newBox m zs
    rw [ho] at this
    exact this
  case box n y =>
    simp only [opv, boxOp] at ho
    split at ho
    · injection ho with ho
      have := Grows.newBox m (ρ y).cells
      rw [ho] at this
      exact this
    · cases ho
  case mkSlice es zs l c =>
    simp only [opv, mkSliceOp] at ho
    obtain ⟨_, _, ho⟩ := Option.bind_eq_some_iff.1 ho
    obtain ⟨_, _, ho⟩ := Option.map_eq_some_iff.1 ho
    injection ho with _ ho
    subst ho
    exact Grows.newBox m _

theorem Grows.load {m m' : Sig} (h : Grows m m') {agg : Bool} {n : Nat} {x v : AV} (hl : m.load agg n x = some v) : m'.load agg n x = some v := by
  unfold Sig.load at hl ⊢
  obtain ⟨p, hp, hl⟩ := Option.bind_eq_some_iff.1 hl
  have : m'.row x = some p := by
    cases x <;> first
      | exact hp
      | (simp only [Sig.row] at hp ⊢
         obtain ⟨cs, hcs, rfl⟩ := Option.map_eq_some_iff.1 hp
         rw [h _ _ _ hcs]
         rfl)
  rw [this]
  exact hl

theorem opv_load_grows {call : CallF} {op : AOp} (h : classOf op = .load) {ρ : AOpd → AV} {m m1 : Sig} {v : AV} (ho : opv call ρ m op = some (v, m1)) : m1 = m ∧ ∀ m', Grows m m' → opv call ρ m' op = some (v, m') := by
  cases op <;> simp only [classOf] at h <;> first | (cases h; done) | (split at h <;> cases h; done) | skip
  case load agg n x =>
    simp only [opv] at ho ⊢
    obtain ⟨q1, q2⟩ := map_pair ho
    simp only at q1 q2
    exact ⟨by first | exact q2 | exact q2.symm, fun m' hg => by rw [hg.load q1]; rfl⟩

end
end Go.Ax
