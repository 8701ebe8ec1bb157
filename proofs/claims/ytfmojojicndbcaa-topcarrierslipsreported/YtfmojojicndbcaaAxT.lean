/-
  What an activation hands back.
-/
import Derived.Test.YtfmojojicndbcaaAxS
namespace Go.Ax
open Go.RowKit

section
variable {P : Program} {B0 : Nat} {w0 : World} {G : Ghost} {k nl : Nat} {w : World} {s : Sig}

theorem row_of_cells {I : IMap} {b : Nat} {arr : Array Value} {ty : TypeId} (hI : ∀ i, I b i = w.cell? ⟨b, i, none⟩) (hw : w.heap[b]? = some (.cells arr ty)) {i : Nat} (hi : i < arr.size) : I b (0 + i) = some (arr.getD i Go.undef) := by
  rw [Nat.zero_add, hI, cell_of_heap hw]
  simp [Array.getD, hi]

theorem leavePtr (h : At P B0 w0 G k nl s w) (hll : s.loops.length = nl) {gr : GRec} (hg : G.acts[k]? = some gr) {b off : Nat} {cs cs' : List AV} {z : Value} (hx : Rel G k nl (.ptr k b off) z) (hb : s.box k b = some cs) (hc : closeAll cs = some cs') :
    RelC (G.popA k gr.bl w).I (.eptr cs' off) z := by
  obtain ⟨_, hI, hcell, _⟩ := pop_sound h hll hg
  obtain ⟨blk, gr', rfl, _, hg', hbl⟩ := hx.inv_ptr
  rw [hg] at hg'
  injection hg' with hg'
  subst hg'
  obtain ⟨r, _, _, _, arr, ty, hw, hrow, hcl⟩ := h.box (Nat.le_refl k) hb hg hbl
  obtain ⟨c1, c2, c3⟩ := closeAll_rel hc hrow.1 hcl hrow.2
  have hmem : blk ∈ gr.bl := List.mem_of_getElem? hbl
  have := RelC.eptr (I := (G.popA k gr.bl w).I) (cs := cs') (off := off) (blk := blk) (o0 := 0) (fun i => arr.getD i Go.undef) c2 (fun i hi => row_of_cells (hcell blk hmem) hw (by rw [hrow.1, ← c1]; exact hi)) (fun i hi => (c3 i hi).mono hI)
  rw [Nat.zero_add] at this
  exact this

theorem leaveRsl (h : At P B0 w0 G k nl s w) (hll : s.loops.length = nl) {gr : GRec} (hg : G.acts[k]? = some gr) {b off es n cap : Nat} {cs cs' : List AV} {z : Value} (hx : Rel G k nl (.rsl k b off es n cap) z) (hb : s.box k b = some cs) (hc : closeAll cs = some cs')
    (hle : off + n * es ≤ cs.length) : RelC (G.popA k gr.bl w).I (.slice .any es (chunks es n (cs'.drop off))) z := by
  obtain ⟨_, hI, hcell, _⟩ := pop_sound h hll hg
  obtain ⟨blk, gr', rfl, _, hg', hbl, hn⟩ := hx.inv_rsl
  rw [hg] at hg'
  injection hg' with hg'
  subst hg'
  obtain ⟨r, _, _, _, arr, ty, hw, hrow, hcl⟩ := h.box (Nat.le_refl k) hb hg hbl
  obtain ⟨c1, c2, c3⟩ := closeAll_rel hc hrow.1 hcl hrow.2
  have hmem : blk ∈ gr.bl := List.mem_of_getElem? hbl
  have := row_slice (I := (G.popA k gr.bl w).I) (cs := cs') (es := es) (n := n) (cap := cap) (blk := blk) (o0 := 0) (off := off) (f := fun i => arr.getD i Go.undef) c2 (fun i hi => row_of_cells (hcell blk hmem) hw (by rw [hrow.1, ← c1]; exact hi)) (fun i hi => (c3 i hi).mono hI) (by rw [c1]; exact hle) hn
  unfold SliceC at this
  rw [(chunks_spec es n (cs'.drop off) (by simp [c1]; omega)).1, Nat.zero_add] at this
  exact this

theorem leaveCaps_sound (h : At P B0 w0 G k nl s w) (hll : s.loops.length = nl) {gr : GRec} (hg : G.acts[k]? = some gr) : ∀ {cs cs' : List AV} {vs : List Value}, vs.length = cs.length → (∀ i (hi : i < cs.length) (hj : i < vs.length), Rel G k nl cs[i] vs[i]) → leaveCaps s cs = some cs' →
    cs'.length = cs.length ∧ ∀ i (hi : i < cs'.length) (hj : i < vs.length), RelC (G.popA k gr.bl w).I cs'[i] vs[i]
  | [], cs', vs, hl, hR, hc => by
    simp only [leaveCaps] at hc
    injection hc with hc
    subst hc
    exact ⟨rfl, fun i hi => absurd hi (Nat.not_lt_zero _)⟩
  | x :: r, cs', [], hl, hR, hc => by simp at hl
  | x :: r, cs', v :: vs, hl, hR, hc => by
    have hI := (pop_sound h hll hg).2.1
    have h0 := hR 0 (by simp) (by simp)
    have hrest : ∀ i (hi : i < r.length) (hj : i < vs.length), Rel G k nl r[i] vs[i] := fun i hi hj => hR (i + 1) (by simpa using hi) (by simpa using hj)
    simp only [List.getElem_cons_zero] at h0
    have fin : ∀ {y : AV} {r' : List AV}, RelC (G.popA k gr.bl w).I y v → leaveCaps s r = some r' → cs' = y :: r' → cs'.length = (x :: r).length ∧ ∀ i (hi : i < cs'.length) (hj : i < (v :: vs).length), RelC (G.popA k gr.bl w).I cs'[i] (v :: vs)[i] := fun hy hr' e => by
      obtain ⟨i1, i2⟩ := leaveCaps_sound h hll hg (by simpa using hl) hrest hr'
      subst e
      refine ⟨by simp [i1], fun i hi hj => ?_⟩
      cases i with
      | zero => exact hy
      | succ i => exact i2 i (by simpa using hi) (by simpa using hj)
    by_cases hp : ∃ d b off, x = .ptr d b off
    · obtain ⟨d, b, off, rfl⟩ := hp
      simp only [leaveCaps] at hc
      split at hc
      · rename_i hd
        rw [h.cur_eq] at hd
        subst hd
        split at hc
        · rename_i ds r' e1 e2
          injection hc with hc
          obtain ⟨cs0, hb, hcl⟩ := Option.bind_eq_some_iff.1 e1
          exact fin (leavePtr h hll hg h0 hb hcl) e2 hc.symm
        · cases hc
      · cases hc
    · have he : leaveCaps s (x :: r) = if x.isClosed1 then (leaveCaps s r).map (x :: ·) else none := by
        cases x <;> first | rfl | exact absurd ⟨_, _, _, rfl⟩ hp
      rw [he] at hc
      split at hc
      · rename_i hcl
        obtain ⟨r', hr', rfl⟩ := Option.map_eq_some_iff.1 hc
        exact fin ((h0.closed1 hcl).mono hI) hr' rfl
      · cases hc

theorem leaveCell_sound (h : At P B0 w0 G k nl s w) (hll : s.loops.length = nl) {gr : GRec} (hg : G.acts[k]? = some gr) {kc nlc : Nat} (hkc : k ≤ kc + 1) {x y : AV} {z : Value} (hx : Rel G k nl x z) (hl : leaveCell s x = some y) :
    Rel (G.popA k gr.bl w) kc nlc y z ∧ y.isCell = true := by
  obtain ⟨_, hI, hcell, hacts⟩ := pop_sound h hll hg
  have closed : ∀ {y : AV}, x.close = some y → Rel (G.popA k gr.bl w) kc nlc y z ∧ y.isCell = true := fun e => ⟨.cl ((hx.close e).mono hI), (close_cell e).2⟩
  cases x with
  | slice o es xs =>
    cases o with
    | tok d g =>
      simp only [leaveCell] at hl
      injection hl with hl
      subst hl
      exact closed rfl
    | _ => exact closed hl
  | ptr d b off =>
    simp only [leaveCell] at hl
    split at hl
    · rename_i hd
      rw [h.cur_eq] at hd
      subst hd
      obtain ⟨cs, hb, hl⟩ := Option.bind_eq_some_iff.1 hl
      obtain ⟨cs', hc, rfl⟩ := Option.map_eq_some_iff.1 hl
      exact ⟨.cl (leavePtr h hll hg hx hb hc), rfl⟩
    · rename_i hd
      rw [h.cur_eq] at hd
      injection hl with hl
      subst hl
      obtain ⟨blk, gr', rfl, hdk, hg', hbl⟩ := hx.inv_ptr
      exact ⟨.ptr gr' (by omega) (by rw [hacts d (by omega)]; exact hg') hbl, rfl⟩
  | rsl d b off es n cap =>
    simp only [leaveCell] at hl
    split at hl
    · rename_i hd
      rw [h.cur_eq] at hd
      subst hd
      obtain ⟨cs, hb, hl⟩ := Option.bind_eq_some_iff.1 hl
      split at hl
      · rename_i hle
        obtain ⟨cs', hc, rfl⟩ := Option.map_eq_some_iff.1 hl
        exact ⟨.cl (leaveRsl h hll hg hx hb hc hle), rfl⟩
      · cases hl
    · cases hl
  | fn f first caps =>
    simp only [leaveCell] at hl
    split at hl
    · rename_i hf
      obtain ⟨caps', hc, rfl⟩ := Option.map_eq_some_iff.1 hl
      obtain ⟨a1, a2, rfl, l1, l2, r1, r2⟩ := hx.inv_fn
      obtain ⟨q1, q2⟩ := leaveCaps_sound h hll hg (vs := a2.toList) (by simpa using l2) (fun i hi hj => by
        have := r2 i hi
        have e : a2.getD i Go.undef = a2.toList[i] := by
          have : i < a2.size := by simpa using hj
          simp [Array.getD, this]
        rw [← e]
        exact this) hc
      refine ⟨.cl (.fn l1 (by rw [l2, q1]) (fun i hi => (r1 i hi).mono hI) (fun i hi => ?_)), rfl⟩
      have hi2 : i < a2.size := by rw [l2, ← q1]; exact hi
      have := q2 i hi (by simpa using hi2)
      have e : a2.getD i Go.undef = a2.toList[i]'(by simpa using hi2) := by simp [Array.getD, hi2]
      rw [e]
      exact this
    · cases hl
  | _ => exact closed hl

theorem leaveCells_sound (h : At P B0 w0 G k nl s w) (hll : s.loops.length = nl) {gr : GRec} (hg : G.acts[k]? = some gr) {kc nlc : Nat} (hkc : k ≤ kc + 1) : ∀ {cs cs' : List AV} {vs : List Value}, vs.length = cs.length → (∀ i (hi : i < cs.length) (hj : i < vs.length), Rel G k nl cs[i] vs[i]) →
    leaveCells s cs = some cs' → cs'.length = cs.length ∧ ∀ i (hi : i < cs'.length) (hj : i < vs.length), Rel (G.popA k gr.bl w) kc nlc cs'[i] vs[i] ∧ cs'[i].isCell = true
  | [], cs', vs, hl, hR, hc => by
    simp only [leaveCells] at hc
    injection hc with hc
    subst hc
    exact ⟨rfl, fun i hi => absurd hi (Nat.not_lt_zero _)⟩
  | x :: r, cs', [], hl, hR, hc => by simp at hl
  | x :: r, cs', v :: vs, hl, hR, hc => by
    simp only [leaveCells] at hc
    split at hc
    · rename_i y r' e1 e2
      injection hc with hc
      subst hc
      obtain ⟨i1, i2⟩ := leaveCells_sound h hll hg hkc (nlc := nlc) (by simpa using hl) (fun i hi hj => hR (i + 1) (by simpa using hi) (by simpa using hj)) e2
      refine ⟨by simp [i1], fun i hi hj => ?_⟩
      cases i with
      | zero => exact leaveCell_sound h hll hg hkc (hR 0 (by simp) (by simp)) e1
      | succ i => exact i2 i (by simpa using hi) (by simpa using hj)
    · cases hc

theorem leaveVal_sound (h : At P B0 w0 G k nl s w) (hll : s.loops.length = nl) {gr : GRec} (hg : G.acts[k]? = some gr) {kc nlc : Nat} (hkc : k ≤ kc + 1) {x y : AV} {z : Value} (hx : Rel G k nl x z) (hl : leaveVal s x = some y) :
    Rel (G.popA k gr.bl w) kc nlc y z := by
  by_cases hag : ∃ cs, x = .agg cs
  · obtain ⟨cs, rfl⟩ := hag
    simp only [leaveVal] at hl
    obtain ⟨cs', hc, rfl⟩ := Option.map_eq_some_iff.1 hl
    obtain ⟨arr, rfl, l1, hcl, hR⟩ := hx.inv_agg
    have conv : ∀ i (hi : i < arr.size), arr.getD i Go.undef = arr.toList[i]'(by simpa using hi) := fun i hi => by simp [Array.getD, hi]
    obtain ⟨q1, q2⟩ := leaveCells_sound h hll hg hkc (nlc := nlc) (vs := arr.toList) (by simpa using l1) (fun i hi hj => by rw [← conv i (by simpa using hj)]; exact hR i hi) hc
    refine .agg (by rw [l1, q1]) (fun c hc => ?_) (fun i hi => ?_)
    · obtain ⟨i, hi, rfl⟩ := List.getElem_of_mem hc
      exact (q2 i hi (by simp; omega)).2
    · have hi' : i < arr.size := by omega
      rw [conv i hi']
      exact (q2 i hi (by simpa using hi')).1
  · have : leaveVal s x = leaveCell s x := by
      cases x <;> first | rfl | exact absurd ⟨_, rfl⟩ hag
    rw [this] at hl
    exact (leaveCell_sound h hll hg hkc hx hl).1

/-! ### The results -/

def resOf (tmps : Array Value) : ResultVar → Sem Value
  | .tmp t => pure (tmps.getD t Go.undef)
  | .cell a t => do loadVar t (← asAddr (tmps.getD a Go.undef))

theorem resultRaw_sound {st : St} {a : Act} (h : At P B0 w0 G k nl st.sig w) (hR : TmpsRel G k nl st.tmps a) {r : ResultVar} {ar : ARes} (hc : compRes P r = some ar) {x : AV} (hx : resultRaw st ar = some x) :
    ∃ z, (resOf a.tmps r).run P w = .ok z w ∧ Rel G k nl x z := by
  cases r with
  | tmp t =>
    simp only [compRes] at hc
    injection hc with hc
    subst hc
    simp only [resultRaw] at hx
    injection hx with hx
    subst hx
    exact ⟨_, rfl, hR t⟩
  | cell t ty =>
    simp only [compRes, resCell] at hc
    split at hc
    · rename_i g n e1 e2
      injection hc with hc
      subst hc
      simp only [resultRaw] at hx
      obtain ⟨z, r1, r2⟩ := load_sound h (hR t) hx e1 e2
      refine ⟨z, ?_, r2⟩
      have hp : ∃ p, a.tmps.getD t Go.undef = .pointer (some p) := by
        unfold Sig.load at hx
        obtain ⟨q, hq, _⟩ := Option.bind_eq_some_iff.1 hx
        have hrt := hR t
        cases hst : st.tmps t with
        | ptr d b off => rw [hst] at hrt; obtain ⟨blk, gr, e, _⟩ := hrt.inv_ptr; exact ⟨_, e⟩
        | eptr cs off => rw [hst] at hrt; obtain ⟨blk, o0, f, e, _⟩ := hrt.inv_eptr; exact ⟨_, e⟩
        | _ => rw [hst] at hq; simp [Sig.row] at hq
      obtain ⟨p, hp⟩ := hp
      simp only [resOf, hp, asAddr, Sem.run_bind, Sem.run_pure, Result.andThen_ok]
      rw [hp] at r1
      simpa [Instr.loadAt, Instr.sureAddr] using r1
    · cases hc

theorem resultsOf_run {st : St} {a : Act} (h : At P B0 w0 G k nl st.sig w) (hR : TmpsRel G k nl st.tmps a) (hll : st.sig.loops.length = nl) {gr : GRec} (hg : G.acts[k]? = some gr) {kc nlc : Nat} (hkc : k ≤ kc + 1) : ∀ {rs : List ResultVar} {ars : List ARes} {l : List AV},
    mapO (compRes P) rs = some ars → resultsOf st ars = some l → ∃ vs : List Value, (rs.mapM (resOf a.tmps)).run P w = .ok vs w ∧ vs.length = l.length ∧ ∀ i (hi : i < l.length) (hj : i < vs.length), Rel (G.popA k gr.bl w) kc nlc l[i] vs[i]
  | [], ars, l, hm, hr => by
    simp only [mapO] at hm
    injection hm with hm
    subst hm
    simp only [resultsOf] at hr
    injection hr with hr
    subst hr
    exact ⟨[], by simp, rfl, fun i hi => absurd hi (Nat.not_lt_zero _)⟩
  | r :: rs, ars, l, hm, hr => by
    simp only [mapO] at hm
    split at hm
    · rename_i ar ars' e1 e2
      injection hm with hm
      subst hm
      simp only [resultsOf] at hr
      split at hr
      · rename_i x l' f1 f2
        injection hr with hr
        subst hr
        obtain ⟨x0, hx0, hx1⟩ := Option.bind_eq_some_iff.1 f1
        obtain ⟨z, r1, r2⟩ := resultRaw_sound h hR e1 hx0
        obtain ⟨vs, v1, v2, v3⟩ := resultsOf_run h hR hll hg hkc (nlc := nlc) e2 f2
        refine ⟨z :: vs, ?_, by simp [v2], fun i hi hj => ?_⟩
        · simp only [List.mapM_cons, Sem.run_bind, r1, Result.andThen_ok, v1, Sem.run_pure]
        · cases i with
          | zero => exact leaveVal_sound h hll hg hkc r2 hx1
          | succ i => exact v3 i (by simpa using hi) (by simpa using hj)
      · cases hr
    · cases hm

theorem results_run {fn : Func} {tmps : Array Value} {vs : List Value} (h : (fn.results.toList.mapM (resOf tmps)).run P w = .ok vs w) :
    (results fn tmps).run P w = .ok (if h : vs.toArray.size = 1 then vs.toArray[0] else .tuple vs.toArray) w := by
  have e : results fn tmps = (do let vs ← fn.results.mapM (resOf tmps); pure (if h : vs.size = 1 then vs[0] else .tuple vs)) := by
    unfold results
    congr 1
  rw [e]
  simp only [Array.mapM_eq_mapM_toList, Sem.run_bind, Sem.run_map, h, Result.andThen_ok, Sem.run_pure]

theorem packed_rel {G' : Ghost} {kc nlc : Nat} {l : List AV} {vs : List Value} (hl : vs.length = l.length) (hR : ∀ i (hi : i < l.length) (hj : i < vs.length), Rel G' kc nlc l[i] vs[i]) :
    Rel G' kc nlc (packed l) (if h : vs.toArray.size = 1 then vs.toArray[0] else .tuple vs.toArray) := by
  match l, vs, hl with
  | [], [], _ => exact .tuple rfl (fun i hi => absurd hi (Nat.not_lt_zero _))
  | [x], [v], _ => exact hR 0 (by simp) (by simp)
  | x :: y :: l, v :: u :: vs, hl =>
    have : ¬ ((v :: u :: vs).toArray.size = 1) := by simp
    rw [dif_neg this]
    refine .tuple (by simpa using hl) (fun i hi => ?_)
    have hi' : i < (v :: u :: vs).length := by rw [hl]; exact hi
    have := hR i hi hi'
    have e : (v :: u :: vs).toArray.getD i Go.undef = (v :: u :: vs)[i] := by
      have : i < vs.length + 1 + 1 := by simpa using hi'
      simp [Array.getD, this]
    rw [e]
    exact this

/-- The end: what is handed back, and the memory behind it. -/
theorem finish_sound {st : St} {a : Act} (h : At P B0 w0 G k nl st.sig w) (hR : TmpsRel G k nl st.tmps a) (hll : st.sig.loops.length = nl) {fn : Func} {ars : List ARes} {own : Bool} (hc : mapO (compRes P) fn.results.toList = some ars) {kc nlc : Nat} (hkc : k ≤ kc + 1) {x : AV} {s' : Sig}
    (hf : finish ars own st = some (x, s')) : ∃ z G', (results fn a.tmps).run P w = .ok z w ∧ SRel P B0 w0 G' s' w ∧ s'.acts.length = k ∧ s'.loops = st.sig.loops ∧ (∀ b i v, G.I b i = some v → G'.I b i = some v) ∧
      (∀ d gr, d < k → G.acts[d]? = some gr → ∃ gr', G'.acts[d]? = some gr' ∧ RecLe gr gr' ∧ gr'.marks = gr.marks) ∧ (∀ l r : Nat, G.loops[l]? = some r → G'.loops[l]? = some r) ∧ Rel G' kc nlc x z := by
  obtain ⟨gr, hg, _⟩ := h.cur
  obtain ⟨hp, hI, hcell, hacts⟩ := pop_sound h hll hg
  have hkeep : ∀ d q, d < k → G.acts[d]? = some q → ∃ q', (G.popA k gr.bl w).acts[d]? = some q' ∧ RecLe q q' ∧ q'.marks = q.marks := fun d q hd e => ⟨q, by rw [hacts d hd]; exact e, .refl q, rfl⟩
  unfold finish at hf
  split at hf
  · -- one result, the right to append with it
    split at hf
    · rename_i ar
      obtain ⟨x0, hx0, hf0⟩ := Option.bind_eq_some_iff.1 hf
      clear hf
      obtain ⟨rv, hrv⟩ : ∃ rv, fn.results.toList = [rv] := by
        obtain ⟨l1, _⟩ := mapO_spec hc
        match hh : fn.results.toList, l1 with
        | [rv], _ => exact ⟨rv, rfl⟩
      rw [hrv] at hc
      simp only [mapO] at hc
      split at hc
      · rename_i ar' ars' e1 e2
        injection hc with hc
        injection hc with hc _
        subst hc
        obtain ⟨z, r1, r2⟩ := resultRaw_sound h hR e1 hx0
        have hrun : (results fn a.tmps).run P w = .ok z w := by
          have := results_run (P := P) (w := w) (fn := fn) (tmps := a.tmps) (vs := [z]) (by rw [hrv]; simp [r1])
          simpa using this
        have other : ∀ {y : AV}, leaveVal st.sig x0 = some y → x = y → s' = st.sig.pop → ∃ z G', (results fn a.tmps).run P w = .ok z w ∧ SRel P B0 w0 G' s' w ∧ s'.acts.length = k ∧ s'.loops = st.sig.loops ∧ (∀ b i v, G.I b i = some v → G'.I b i = some v) ∧
            (∀ d gr, d < k → G.acts[d]? = some gr → ∃ gr', G'.acts[d]? = some gr' ∧ RecLe gr gr' ∧ gr'.marks = gr.marks) ∧ (∀ l r : Nat, G.loops[l]? = some r → G'.loops[l]? = some r) ∧ Rel G' kc nlc x z := fun hy ex es => by
          subst ex es
          exact ⟨z, _, hrun, hp, by simp [Sig.pop, h.len], rfl, hI, hkeep, fun _ _ e => e, leaveVal_sound h hll hg hkc r2 hy⟩
        unfold ownResult at hf0
        split at hf0
        · rename_i d g es xs
          split at hf0
          · rename_i hcond
            obtain ⟨hd, hd1, _, htok⟩ := hcond
            injection hf0 with hf0
            injection hf0 with hf1 hf2
            rw [h.cur_eq] at hd
            subst hd
            subst hf1 hf2
            cases r2 with
            | cl r2 => cases r2 with
              | slice f ho => rcases ho with h | ⟨h, _⟩ <;> cases h
              | empty ho => rcases ho with h | h <;> cases h
            | @tok _ _ _ _ av cap T gr' hd hg' ht hes hxc hn =>
            rw [hg] at hg'
            injection hg' with hg'
            subst hg'
            obtain ⟨r, hr, hrt⟩ := tok_eq htok
            have hrr := h.rel.rec_ _ r gr hr hg
            obtain ⟨hTn, hT2⟩ := hrr.tok g _ T hrt ht
            obtain ⟨t1, t2, t3, t4, t5, arr, ty, t6, t7⟩ := hT2 _ rfl
            obtain ⟨_, heq⟩ := hn _ hTn
            obtain ⟨rfl, rfl⟩ := heq rfl
            have hfree : (G.popA d gr.bl w).own T.blk = none := Ghost.popA_free t2 (.inr (.inl ⟨g, rfl⟩))
            obtain ⟨rc, grc, hrc, hgc⟩ := h.rec_ (d := d - 1) (by omega)
            have hrc' : st.sig.pop.acts[d - 1]? = some rc := by
              simp only [Sig.pop, dropLast_get h.len]
              rw [if_pos (by omega)]
              exact hrc
            have hgc' : (G.popA d gr.bl w).acts[d - 1]? = some grc := by rw [hacts _ (by omega)]; exact hgc
            have hIt : ∀ i, xs.length * T.es ≤ i → (G.popA d gr.bl w).I T.blk i = none := fun i hi => by
              simp only [Ghost.popA]
              rw [if_neg (fun hm => by
                obtain ⟨q, hq, hqe⟩ := List.getElem_of_mem hm
                have hq' : q < r.boxes.length := by rw [← hrr.blen]; exact hq
                have := (hrr.box q _ _ (List.getElem?_eq_getElem hq') (List.getElem?_eq_getElem hq)).2.1
                rw [hqe, t2] at this
                injection this with this
                cases this)]
              exact t3 i hi
            obtain ⟨G2, b1, b2, b3, b4⟩ := addTok_free hp (T := T) hrc' hgc' hfree hTn ⟨t1, hIt, t4, t5, arr, ty, t6, t7⟩
            have hlen2 : (st.sig.pop.addTok (d - 1) xs.length).acts.length = d := by simp [Sig.addTok, Sig.onRec, Sig.pop, h.len]
            refine ⟨_, G2, hrun, b3, hlen2, rfl, fun b i v e => by rw [b2]; exact hI b i v e, fun q gq hq e => ?_, ?_, ?_⟩
            · have e' : (G.popA d gr.bl w).acts[q]? = some gq := by rw [hacts q hq]; exact e
              obtain ⟨gq', c1, c2, c3⟩ := (b4 (q + 1) 0).acts q gq (by omega) e'
              exact ⟨gq', c1, c2, c3 (by omega)⟩
            · exact fun l r e => (b4 0 (l + 1)).loops l r (by omega) e
            · have hga : G2.acts[d - 1]? = some { grc with tk := grc.tk ++ [T] } := by rw [b1, modify_get, if_pos rfl, hgc']; rfl
              have hnt : st.sig.ntok (d - 1) = grc.tk.length := by rw [ntok_eq hrc, (h.rel.rec_ _ rc grc hrc hgc).tlen]
              rw [hnt]
              exact .tok T _ (by omega) hga (by show (grc.tk ++ [T])[grc.tk.length]? = _; rw [List.getElem?_append_right (Nat.le_refl _)]; simp) hes (hxc.mono (by rw [b2]; exact hI)) hn
          · injection hf0 with hf0
            injection hf0 with hf1 hf2
            exact other (y := .slice .any es xs) rfl hf1.symm hf2.symm
        · obtain ⟨y, hy, hf0⟩ := Option.map_eq_some_iff.1 hf0
          injection hf0 with hf1 hf2
          exact other hy hf1.symm hf2.symm
      · cases hc
    · cases hf
  · obtain ⟨l, hl, hf⟩ := Option.map_eq_some_iff.1 hf
    injection hf with hf1 hf2
    subst hf1 hf2
    obtain ⟨vs, v1, v2, v3⟩ := resultsOf_run h hR hll hg hkc (nlc := nlc) hc hl
    exact ⟨_, _, results_run v1, hp, by simp [Sig.pop, h.len], rfl, hI, hkeep, fun _ _ e => e, packed_rel v2 v3⟩

end
end Go.Ax
