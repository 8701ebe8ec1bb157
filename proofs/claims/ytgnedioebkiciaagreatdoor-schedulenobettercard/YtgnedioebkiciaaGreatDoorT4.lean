/-
  What an activation hands back.
-/
import Derived.Test.YtgnedioebkiciaaGreatDoorT3
import Derived.RangeFuncOwn
import Derived.TacticsIn
import Derived.OrdersIn
namespace Go.Ax
open Go.RowKit
section
variable {P : Program} {B0 : Nat} {w0 : World} {G : Ghost} {k nl : Nat} {w : World} {s : Sig}
theorem row_of_cells {I : IMap} {b : Nat} {arr : Array Value} {ty : TypeId} (hI : ∀ i, I b i = w.cell? ⟨b, i, none⟩) (hw : w.heap[b]? = some (.cells arr ty)) {i : Nat} (hi : i < arr.size) : I b (0 + i) = some (arr.getD i Go.undef) := by
 rw [Nat.zero_add, hI, cell_of_heap hw]
 simp [Array.getD, hi]
theorem leavePtr (h : At P B0 w0 G k nl s w) (hll : s.loops.length = nl) {gr : GRec} (hg : G.acts[k]? = some gr) {b off : Nat} {cs cs' : List AV} {z : Value} (hx : Rel G k nl (.ptr k b off) z) (hb : s.box k b = some cs) (hc : closeAll cs = some cs') :
  RelC (G.popA k gr.bl w).I (.eptr cs' off) z := by
 obtain ⟨_, hI, hcell, _⟩ := pop_sound h hll hg
 obtain ⟨blk, gr', rfl, _, hg', hbl⟩ := hx.inv_ptr
 rw [hg] at hg'
 injection hg' with hg'
 subst hg'
 obtain ⟨r, _, _, _, arr, ty, hw, hrow, hcl⟩ := h.box (Nat.le_refl k) hb hg hbl
 obtain ⟨c1, c2, c3⟩ := closeAll_rel hc hrow.1 hcl hrow.2
 have hmem : some blk ∈ gr.bl := List.mem_of_getElem? hbl
 have := RelC.eptr (I := (G.popA k gr.bl w).I) (cs := cs') (off := off) (blk := blk) (o0 := 0) (fun i => arr.getD i Go.undef) c2 (fun i hi => row_of_cells (hcell blk hmem) hw (by have := hrow.1; omega)) (fun i hi => (c3 i hi).mono hI)
 rw [Nat.zero_add] at this
 exact this
theorem leaveRsl (h : At P B0 w0 G k nl s w) (hll : s.loops.length = nl) {gr : GRec} (hg : G.acts[k]? = some gr) {b off es n cap : Nat} {cs cs' : List AV} {z : Value} (hx : Rel G k nl (.rsl k b off es n cap) z) (hb : s.box k b = some cs) (hc : closeAll cs = some cs')
  (hle : off + n * es ≤ cs.length) : RelC (G.popA k gr.bl w).I (.slice .any es (chunks es n (cs'.drop off))) z := by
 obtain ⟨_, hI, hcell, _⟩ := pop_sound h hll hg
 obtain ⟨blk, gr', rc, o0, rfl, _, hg', hbl, hn, _, _, ho⟩ := hx.inv_rsl
 rcases Nat.eq_zero_or_pos n with hn0 | hn0
 ·subst hn0
  exact .slice (fun _ _ => Go.undef) (.inl rfl) (Nat.zero_le _) (fun r hr => absurd hr (by simp [chunks])) (fun r hr => absurd hr (by simp [chunks])) (fun i hi => absurd hi (Nat.not_lt_zero _)) (fun i hi => absurd hi (Nat.not_lt_zero _))
 have ho := ho (.inl hn0)
 subst ho
 rw [hg] at hg'
 injection hg' with hg'
 subst hg'
 obtain ⟨r, _, _, _, arr, ty, hw, hrow, hcl⟩ := h.box (Nat.le_refl k) hb hg hbl
 obtain ⟨c1, c2, c3⟩ := closeAll_rel hc hrow.1 hcl hrow.2
 have hmem : some blk ∈ gr.bl := List.mem_of_getElem? hbl
 have := row_slice (I := (G.popA k gr.bl w).I) (cs := cs') (es := es) (n := n) (cap := rc) (blk := blk) (o0 := 0) (off := o0) (f := fun i => arr.getD i Go.undef) c2 (fun i hi => row_of_cells (hcell blk hmem) hw (by have := hrow.1; omega)) (fun i hi => (c3 i hi).mono hI) (by rw [c1]; exact hle) hn
 unfold SliceC at this
 rw [(chunks_spec es n (cs'.drop o0) (by simp [c1]; omega)).1, Nat.zero_add] at this
 exact this
theorem leaveCaps_sound (h : At P B0 w0 G k nl s w) (hll : s.loops.length = nl) {gr : GRec} (hg : G.acts[k]? = some gr) : ∀ {cs cs' : List AV} {vs : List Value}, vs.length = cs.length → (∀ i (hi : i < cs.length) (hj : i < vs.length), Rel G k nl cs[i] vs[i]) → leaveCaps s cs = some cs' →
  cs'.length = cs.length ∧ ∀ i (hi : i < cs'.length) (hj : i < vs.length), RelC (G.popA k gr.bl w).I cs'[i] vs[i]
 | [], cs', vs, hl, hR, hc => by
  simp only [leaveCaps] at hc
  injection hc with hc
  subst hc
  exact ⟨rfl, fun i hi => absurd hi (Nat.not_lt_zero _)⟩
 | x :: r, cs', [], hl, hR, hc => by simp at hl
 | x :: r, cs', v :: vs, hl, hR, hc => by
  have hI := (pop_sound h hll hg).2.1
  have h0 := hR 0 (by simp) (by simp)
  have hrest : ∀ i (hi : i < r.length) (hj : i < vs.length), Rel G k nl r[i] vs[i] := fun i hi hj => hR (i + 1) (by simpa using hi) (by simpa using hj)
  simp only [List.getElem_cons_zero] at h0
  have fin : ∀ {y : AV} {r' : List AV}, RelC (G.popA k gr.bl w).I y v → leaveCaps s r = some r' → cs' = y :: r' → cs'.length = (x :: r).length ∧ ∀ i (hi : i < cs'.length) (hj : i < (v :: vs).length), RelC (G.popA k gr.bl w).I cs'[i] (v :: vs)[i] := fun hy hr' e => by
   obtain ⟨i1, i2⟩ := leaveCaps_sound h hll hg (by simpa using hl) hrest hr'
   subst e
   refine ⟨by simp [i1], fun i hi hj => ?_⟩
   cases i with
   | zero => exact hy
   | succ i => exact i2 i (by simpa using hi) (by simpa using hj)
  by_cases hp : ∃ d b off, x = .ptr d b off
  ·obtain ⟨d, b, off, rfl⟩ := hp
   simp only [leaveCaps] at hc
   split at hc
   ·rename_i hd
    rw [h.cur_eq] at hd
    subst hd
    split at hc
    ·rename_i ds r' e1 e2
     injection hc with hc
     obtain ⟨cs0, hb, hcl⟩ := Option.bind_eq_some_iff.1 e1
     exact fin (leavePtr h hll hg h0 hb hcl) e2 hc.symm
    ·cases hc
   ·cases hc
  ·have he : leaveCaps s (x :: r) = if x.isClosed1 then (leaveCaps s r).map (x :: ·) else none := by
    cases x <;> first | rfl | exact absurd ⟨_, _, _, rfl⟩ hp
   rw [he] at hc
   split at hc
   ·rename_i hcl
    obtain ⟨r', hr', rfl⟩ := Option.map_eq_some_iff.1 hc
    exact fin ((h0.closed1 hcl).mono hI) hr' rfl
   ·cases hc
theorem leaveCell_sound (h : At P B0 w0 G k nl s w) (hll : s.loops.length = nl) {gr : GRec} (hg : G.acts[k]? = some gr) {kc nlc : Nat} (hkc : k ≤ kc + 1) {x y : AV} {z : Value} (hx : Rel G k nl x z) (hl : leaveCell s x = some y) :
  Rel (G.popA k gr.bl w) kc nlc y z ∧ y.isCell = true := by
 obtain ⟨_, hI, hcell, hacts⟩ := pop_sound h hll hg
 have closed : ∀ {y : AV}, x.close = some y → Rel (G.popA k gr.bl w) kc nlc y z ∧ y.isCell = true := fun e => ⟨.cl ((hx.close e).mono hI), (close_cell e).2⟩
 cases x with
 | slice o es xs =>
  cases o with
  | tok d g =>
   simp only [leaveCell] at hl
   injection hl with hl
   subst hl
   exact closed rfl
  | _ => exact closed hl
 | ptr d b off =>
  simp only [leaveCell] at hl
  split at hl
  ·rename_i hd
   rw [h.cur_eq] at hd
   subst hd
   obtain ⟨cs, hb, hl⟩ := Option.bind_eq_some_iff.1 hl
   obtain ⟨cs', hc, rfl⟩ := Option.map_eq_some_iff.1 hl
   exact ⟨.cl (leavePtr h hll hg hx hb hc), rfl⟩
  ·rename_i hd
   rw [h.cur_eq] at hd
   injection hl with hl
   subst hl
   obtain ⟨blk, gr', rfl, hdk, hg', hbl⟩ := hx.inv_ptr
   exact ⟨.ptr gr' (by omega) (by rw [hacts d (by omega)]; exact hg') hbl, rfl⟩
 | rsl d b off es n cap =>
  simp only [leaveCell] at hl
  split at hl
  ·rename_i hd
   rw [h.cur_eq] at hd
   subst hd
   obtain ⟨cs, hb, hl⟩ := Option.bind_eq_some_iff.1 hl
   split at hl
   ·rename_i hle
    obtain ⟨cs', hc, rfl⟩ := Option.map_eq_some_iff.1 hl
    exact ⟨.cl (leaveRsl h hll hg hx hb hc hle), rfl⟩
   ·cases hl
  ·cases hl
 | fn f first caps =>
  simp only [leaveCell] at hl
  split at hl
  ·rename_i hf
   obtain ⟨caps', hc, rfl⟩ := Option.map_eq_some_iff.1 hl
   obtain ⟨a1, a2, rfl, l1, l2, r1, r2⟩ := hx.inv_fn
   obtain ⟨q1, q2⟩ := leaveCaps_sound h hll hg (vs := a2.toList) (by simpa using l2) (fun i hi hj => by
    have := r2 i hi
    have e : a2.getD i Go.undef = a2.toList[i] := by
     have : i < a2.size := by simpa using hj
     simp [Array.getD, this]
    rw [← e]
    exact this) hc
   refine ⟨.cl (.fn l1 (by rw [l2, q1]) (fun i hi => (r1 i hi).mono hI) (fun i hi => ?_)), rfl⟩
   have hi2 : i < a2.size := by rw [l2, ← q1]; exact hi
   have := q2 i hi (by simpa using hi2)
   have e : a2.getD i Go.undef = a2.toList[i]'(by simpa using hi2) := by simp [Array.getD, hi2]
   rw [e]
   exact this
  ·cases hl
 | _ => exact closed hl
theorem leaveCells_sound (h : At P B0 w0 G k nl s w) (hll : s.loops.length = nl) {gr : GRec} (hg : G.acts[k]? = some gr) {kc nlc : Nat} (hkc : k ≤ kc + 1) : ∀ {cs cs' : List AV} {vs : List Value}, vs.length = cs.length → (∀ i (hi : i < cs.length) (hj : i < vs.length), Rel G k nl cs[i] vs[i]) →
  leaveCells s cs = some cs' → cs'.length = cs.length ∧ ∀ i (hi : i < cs'.length) (hj : i < vs.length), Rel (G.popA k gr.bl w) kc nlc cs'[i] vs[i] ∧ cs'[i].isCell = true
 | [], cs', vs, hl, hR, hc => by
  simp only [leaveCells] at hc
  injection hc with hc
  subst hc
  exact ⟨rfl, fun i hi => absurd hi (Nat.not_lt_zero _)⟩
 | x :: r, cs', [], hl, hR, hc => by simp at hl
 | x :: r, cs', v :: vs, hl, hR, hc => by
  simp only [leaveCells] at hc
  split at hc
  ·rename_i y r' e1 e2
   injection hc with hc
   subst hc
   obtain ⟨i1, i2⟩ := leaveCells_sound h hll hg hkc (nlc := nlc) (by simpa using hl) (fun i hi hj => hR (i + 1) (by simpa using hi) (by simpa using hj)) e2
   refine ⟨by simp [i1], fun i hi hj => ?_⟩
   cases i with
   | zero => exact leaveCell_sound h hll hg hkc (hR 0 (by simp) (by simp)) e1
   | succ i => exact i2 i (by simpa using hi) (by simpa using hj)
  ·cases hc
theorem leaveVal_sound (h : At P B0 w0 G k nl s w) (hll : s.loops.length = nl) {gr : GRec} (hg : G.acts[k]? = some gr) {kc nlc : Nat} (hkc : k ≤ kc + 1) {x y : AV} {z : Value} (hx : Rel G k nl x z) (hl : leaveVal s x = some y) :
  Rel (G.popA k gr.bl w) kc nlc y z := by
 by_cases hag : ∃ cs, x = .agg cs
 ·obtain ⟨cs, rfl⟩ := hag
  simp only [leaveVal] at hl
  obtain ⟨cs', hc, rfl⟩ := Option.map_eq_some_iff.1 hl
  obtain ⟨arr, rfl, l1, hcl, hR⟩ := hx.inv_agg
  have conv : ∀ i (hi : i < arr.size), arr.getD i Go.undef = arr.toList[i]'(by simpa using hi) := fun i hi => by simp [Array.getD, hi]
  obtain ⟨q1, q2⟩ := leaveCells_sound h hll hg hkc (nlc := nlc) (vs := arr.toList) (by simpa using l1) (fun i hi hj => by rw [← conv i (by simpa using hj)]; exact hR i hi) hc
  refine .agg (by rw [l1, q1]) (fun c hc => ?_) (fun i hi => ?_)
  ·obtain ⟨i, hi, rfl⟩ := List.getElem_of_mem hc
   exact (q2 i hi (by simp; omega)).2
  ·have hi' : i < arr.size := by omega
   rw [conv i hi']
   exact (q2 i hi (by simpa using hi')).1
 ·have : leaveVal s x = leaveCell s x := by
   cases x <;> first | rfl | exact absurd ⟨_, rfl⟩ hag
  rw [this] at hl
  exact (leaveCell_sound h hll hg hkc hx hl).1
def resOf (tmps : Array Value) : ResultVar → Sem Value
 | .tmp t => pure (tmps.getD t Go.undef)
 | .cell a t => do loadVar t (← asAddr (tmps.getD a Go.undef))
theorem resultRaw_sound {st : St} {a : Act} (h : At P B0 w0 G k nl st.sig w) (hR : TmpsRel G k nl st.tmps a) {r : ResultVar} {ar : ARes} (hc : compRes P r = some ar) {x : AV} (hx : resultRaw st ar = some x) :
  ∃ z, (resOf a.tmps r).run P w = .ok z w ∧ Rel G k nl x z := by
 cases r with
 | tmp t =>
  simp only [compRes] at hc
  injection hc with hc
  subst hc
  simp only [resultRaw] at hx
  injection hx with hx
  subst hx
  exact ⟨_, rfl, hR t⟩
 | cell t ty =>
  simp only [compRes, resCell] at hc
  split at hc
  ·rename_i g n e1 e2
   injection hc with hc
   subst hc
   simp only [resultRaw] at hx
   obtain ⟨z, r1, r2⟩ := load_sound h (hR t) hx e1 e2
   refine ⟨z, ?_, r2⟩
   have hp : ∃ p, a.tmps.getD t Go.undef = .pointer (some p) := by
    unfold Sig.load at hx
    obtain ⟨q, hq, _⟩ := Option.bind_eq_some_iff.1 hx
    have hrt := hR t
    cases hst : st.tmps t with
    | ptr d b off => rw [hst] at hrt; obtain ⟨blk, gr, e, _⟩ := hrt.inv_ptr; exact ⟨_, e⟩
    | eptr cs off => rw [hst] at hrt; obtain ⟨blk, o0, f, e, _⟩ := hrt.inv_eptr; exact ⟨_, e⟩
    | _ => rw [hst] at hq; simp [Sig.row] at hq
   obtain ⟨p, hp⟩ := hp
   simp only [resOf, hp, asAddr, Sem.run_bind, Sem.run_pure, Result.andThen_ok]
   rw [hp] at r1
   simpa [Instr.loadAt, Instr.sureAddr] using r1
  ·cases hc
theorem resultsOf_run {st : St} {a : Act} (h : At P B0 w0 G k nl st.sig w) (hR : TmpsRel G k nl st.tmps a) (hll : st.sig.loops.length = nl) {gr : GRec} (hg : G.acts[k]? = some gr) {kc nlc : Nat} (hkc : k ≤ kc + 1) : ∀ {rs : List ResultVar} {ars : List ARes} {l : List AV},
  mapO (compRes P) rs = some ars → resultsOf st ars = some l → ∃ vs : List Value, (rs.mapM (resOf a.tmps)).run P w = .ok vs w ∧ vs.length = l.length ∧ ∀ i (hi : i < l.length) (hj : i < vs.length), Rel (G.popA k gr.bl w) kc nlc l[i] vs[i]
 | [], ars, l, hm, hr => by
  simp only [mapO] at hm
  injection hm with hm
  subst hm
  simp only [resultsOf] at hr
  injection hr with hr
  subst hr
  exact ⟨[], by simp, rfl, fun i hi => absurd hi (Nat.not_lt_zero _)⟩
 | r :: rs, ars, l, hm, hr => by
  simp only [mapO] at hm
  split at hm
  ·rename_i ar ars' e1 e2
   injection hm with hm
   subst hm
   simp only [resultsOf] at hr
   split at hr
   ·rename_i x l' f1 f2
    injection hr with hr
    subst hr
    obtain ⟨x0, hx0, hx1⟩ := Option.bind_eq_some_iff.1 f1
    obtain ⟨z, r1, r2⟩ := resultRaw_sound h hR e1 hx0
    obtain ⟨vs, v1, v2, v3⟩ := resultsOf_run h hR hll hg hkc (nlc := nlc) e2 f2
    refine ⟨z :: vs, ?_, by simp [v2], fun i hi hj => ?_⟩
    ·simp only [List.mapM_cons, Sem.run_bind, r1, Result.andThen_ok, v1, Sem.run_pure]
    ·cases i with
     | zero => exact leaveVal_sound h hll hg hkc r2 hx1
     | succ i => exact v3 i (by simpa using hi) (by simpa using hj)
   ·cases hr
  ·cases hm
theorem results_run {fn : Func} {tmps : Array Value} {vs : List Value} (h : (fn.results.toList.mapM (resOf tmps)).run P w = .ok vs w) :
  (results fn tmps).run P w = .ok (if h : vs.toArray.size = 1 then vs.toArray[0] else .tuple vs.toArray) w := by
 have e : results fn tmps = (do let vs ← fn.results.mapM (resOf tmps); pure (if h : vs.size = 1 then vs[0] else .tuple vs)) := by
  unfold results
  congr 1
 rw [e]
 simp only [Array.mapM_eq_mapM_toList, Sem.run_bind, Sem.run_map, h, Result.andThen_ok, Sem.run_pure]
theorem packed_rel {G' : Ghost} {kc nlc : Nat} {l : List AV} {vs : List Value} (hl : vs.length = l.length) (hR : ∀ i (hi : i < l.length) (hj : i < vs.length), Rel G' kc nlc l[i] vs[i]) :
  Rel G' kc nlc (packed l) (if h : vs.toArray.size = 1 then vs.toArray[0] else .tuple vs.toArray) := by
 match l, vs, hl with
 | [], [], _ => exact .tuple rfl (fun i hi => absurd hi (Nat.not_lt_zero _))
 | [x], [v], _ => exact hR 0 (by simp) (by simp)
 | x :: y :: l, v :: u :: vs, hl =>
  have : ¬ ((v :: u :: vs).toArray.size = 1) := by simp
  rw [dif_neg this]
  refine .tuple (by simpa using hl) (fun i hi => ?_)
  have hi' : i < (v :: u :: vs).length := by rw [hl]; exact hi
  have := hR i hi hi'
  have e : (v :: u :: vs).toArray.getD i Go.undef = (v :: u :: vs)[i] := by
   have : i < vs.length + 1 + 1 := by simpa using hi'
   simp [Array.getD, this]
  rw [e]
  exact this
theorem leaveCaps_ro {r l : Nat} : ∀ {caps : List AV}, leaveCaps { s with ro := r, lro := l } caps = leaveCaps s caps
 | [] => rfl
 | x :: rest => by
  have ih := leaveCaps_ro (r := r) (l := l) (caps := rest)
  cases x <;> simp only [leaveCaps, ih] <;> rfl
theorem leaveCell_ro {r l : Nat} {x : AV} : leaveCell { s with ro := r, lro := l } x = leaveCell s x := by
 cases x with
 | slice o es xs => cases o <;> rfl
 | fn f first caps => simp only [leaveCell, leaveCaps_ro]
 | _ => rfl
theorem leaveCells_ro {r l : Nat} : ∀ {cs : List AV}, leaveCells { s with ro := r, lro := l } cs = leaveCells s cs
 | [] => rfl
 | x :: rest => by simp only [leaveCells, leaveCell_ro, leaveCells_ro]
theorem leaveVal_ro {r l : Nat} {x : AV} : leaveVal { s with ro := r, lro := l } x = leaveVal s x := by
 cases x with
 | agg cs => simp only [leaveVal, leaveCells_ro]
 | slice o es xs => cases o <;> rfl
 | fn f first caps =>
  simp only [leaveVal, leaveCell, leaveCaps_ro]
 | _ => rfl
theorem ownResult_sound (h : At P B0 w0 G k nl s w) (hll : s.loops.length = nl) {kc nlc : Nat} (hkc : k ≤ kc + 1) {x0 x : AV} {z : Value} {s' : Sig} (r2 : Rel G k nl x0 z) (hf0 : ownResult s x0 = some (x, s')) :
  ∃ G', SRel P B0 w0 G' s' w ∧ s'.acts.length = k ∧ s'.loops = s.loops ∧ (∀ b i v, G.I b i = some v → G'.I b i = some v) ∧
   (∀ d gr, d < k → G.acts[d]? = some gr → ∃ gr', G'.acts[d]? = some gr' ∧ RecLe gr gr' ∧ gr'.marks = gr.marks) ∧ (∀ l r : Nat, G.loops[l]? = some r → G'.loops[l]? = some r) ∧ Rel G' kc nlc x z := by
 obtain ⟨gr, hg, _⟩ := h.cur
 obtain ⟨hp, hI, hcell, hacts⟩ := pop_sound h hll hg
 have hkeep : ∀ d q, d < k → G.acts[d]? = some q → ∃ q', (G.popA k gr.bl w).acts[d]? = some q' ∧ RecLe q q' ∧ q'.marks = q.marks := fun d q hd e => ⟨q, by rw [hacts d hd]; exact e, .refl q, rfl⟩
 have other : ∀ {y : AV}, leaveVal s x0 = some y → x = y → s' = s.pop → ∃ G', SRel P B0 w0 G' s' w ∧ s'.acts.length = k ∧ s'.loops = s.loops ∧ (∀ b i v, G.I b i = some v → G'.I b i = some v) ∧
   (∀ d gr, d < k → G.acts[d]? = some gr → ∃ gr', G'.acts[d]? = some gr' ∧ RecLe gr gr' ∧ gr'.marks = gr.marks) ∧ (∀ l r : Nat, G.loops[l]? = some r → G'.loops[l]? = some r) ∧ Rel G' kc nlc x z := fun hy ex es => by
  subst ex es
  exact ⟨_, hp, by simp [Sig.pop, h.len], rfl, hI, hkeep, fun _ _ e => e, leaveVal_sound h hll hg hkc r2 hy⟩
 unfold ownResult at hf0
 split at hf0
 ·rename_i d g es xs
  split at hf0
  ·rename_i hcond
   obtain ⟨hd, hd1, _, htok⟩ := hcond
   injection hf0 with hf0
   injection hf0 with hf1 hf2
   rw [h.cur_eq] at hd
   subst hd
   subst hf1 hf2
   cases r2 with
   | cl r2 => cases r2 with
    | slice f ho => rcases ho with h | ⟨h, _⟩ <;> cases h
    | empty ho => rcases ho with h | h <;> cases h
   | @tok _ _ _ _ av cap T gr' hd hg' ht hes hxc hn =>
   rw [hg] at hg'
   injection hg' with hg'
   subst hg'
   obtain ⟨r, hr, hrt⟩ := tok_eq htok
   have hrr := h.rel.rec_ _ r gr hr hg
   obtain ⟨hTn, hT2⟩ := hrr.tok g _ T hrt ht
   obtain ⟨t1, t2, t3, t4, t5, arr, ty, t6, t7⟩ := hT2 _ rfl
   obtain ⟨_, heq⟩ := hn _ hTn
   obtain ⟨rfl, rfl⟩ := heq rfl
   have hfree : (G.popA d gr.bl w).own T.blk = none := Ghost.popA_free t2 (.inr (.inl ⟨g, rfl⟩))
   obtain ⟨rc, grc, hrc, hgc⟩ := h.rec_ (d := d - 1) (by omega)
   have hrc' : s.pop.acts[d - 1]? = some rc := by
    simp only [Sig.pop, dropLast_get h.len]
    rw [if_pos (by omega)]
    exact hrc
   have hgc' : (G.popA d gr.bl w).acts[d - 1]? = some grc := by rw [hacts _ (by omega)]; exact hgc
   have hIt : ∀ i, xs.length * T.es ≤ i → (G.popA d gr.bl w).I T.blk i = none := fun i hi => by
    simp only [Ghost.popA]
    rw [if_neg (fun hm => by
     obtain ⟨q, hq, hqe⟩ := List.getElem_of_mem hm
     have hq' : q < r.boxes.length := by rw [← hrr.blen]; exact hq
     obtain ⟨y, this, _⟩ := (hrr.box q _ T.blk (List.getElem?_eq_getElem hq') (by rw [List.getElem?_eq_getElem hq, hqe])).2.1
     rw [t2] at this
     injection this with this
     cases this)]
    exact t3 i hi
   obtain ⟨G2, b1, b2, b3, b4⟩ := addTok_free hp (T := T) hrc' hgc' hfree hTn ⟨t1, hIt, t4, t5, arr, ty, t6, t7⟩
   have hlen2 : (s.pop.addTok (d - 1) xs.length).acts.length = d := by simp [Sig.addTok, Sig.onRec, Sig.pop, h.len]
   refine ⟨G2, b3, hlen2, rfl, fun b i v e => by rw [b2]; exact hI b i v e, fun q gq hq e => ?_, ?_, ?_⟩
   ·have e' : (G.popA d gr.bl w).acts[q]? = some gq := by rw [hacts q hq]; exact e
    obtain ⟨gq', c1, c2, c3⟩ := (b4 (q + 1) 0).acts q gq (by omega) e'
    exact ⟨gq', c1, c2, c3 (by omega)⟩
   ·exact fun l r e => (b4 0 (l + 1)).loops l r (by omega) e
   ·have hga : G2.acts[d - 1]? = some { grc with tk := grc.tk ++ [T] } := by rw [b1, modify_get, if_pos rfl, hgc']; rfl
    have hnt : s.ntok (d - 1) = grc.tk.length := by rw [ntok_eq hrc, (h.rel.rec_ _ rc grc hrc hgc).tlen]
    rw [hnt]
    exact .tok T _ (by omega) hga (by show (grc.tk ++ [T])[grc.tk.length]? = _; rw [List.getElem?_append_right (Nat.le_refl _)]; simp) hes (hxc.mono (by rw [b2]; exact hI)) hn
  ·injection hf0 with hf0
   injection hf0 with hf1 hf2
   exact other (y := .slice .any es xs) rfl hf1.symm hf2.symm
 ·obtain ⟨y, hy, hf0⟩ := Option.map_eq_some_iff.1 hf0
  injection hf0 with hf1 hf2
  exact other hy hf1.symm hf2.symm
theorem finish_sound {st : St} {a : Act} (h : At P B0 w0 G k nl st.sig w) (hR : TmpsRel G k nl st.tmps a) (hll : st.sig.loops.length = nl) {fn : Func} {ars : List ARes} {own : Bool} (hc : mapO (compRes P) fn.results.toList = some ars) {kc nlc : Nat} (hkc : k ≤ kc + 1) {x : AV} {s' : Sig}
  (hf : finish ars own st = some (x, s')) : ∃ z G', (results fn a.tmps).run P w = .ok z w ∧ SRel P B0 w0 G' s' w ∧ s'.acts.length = k ∧ s'.loops = st.sig.loops ∧ (∀ b i v, G.I b i = some v → G'.I b i = some v) ∧
   (∀ d gr, d < k → G.acts[d]? = some gr → ∃ gr', G'.acts[d]? = some gr' ∧ RecLe gr gr' ∧ gr'.marks = gr.marks) ∧ (∀ l r : Nat, G.loops[l]? = some r → G'.loops[l]? = some r) ∧ Rel G' kc nlc x z := by
 obtain ⟨gr, hg, _⟩ := h.cur
 obtain ⟨hp, hI, hcell, hacts⟩ := pop_sound h hll hg
 have hkeep : ∀ d q, d < k → G.acts[d]? = some q → ∃ q', (G.popA k gr.bl w).acts[d]? = some q' ∧ RecLe q q' ∧ q'.marks = q.marks := fun d q hd e => ⟨q, by rw [hacts d hd]; exact e, .refl q, rfl⟩
 unfold finish at hf
 split at hf
 · -- one result, the right to append with it
  split at hf
  ·rename_i ar
   obtain ⟨x0, hx0, hf0⟩ := Option.bind_eq_some_iff.1 hf
   clear hf
   obtain ⟨rv, hrv⟩ : ∃ rv, fn.results.toList = [rv] := by
    obtain ⟨l1, _⟩ := mapO_spec hc
    match hh : fn.results.toList, l1 with
    | [rv], _ => exact ⟨rv, rfl⟩
   rw [hrv] at hc
   simp only [mapO] at hc
   split at hc
   ·rename_i ar' ars' e1 e2
    injection hc with hc
    injection hc with hc _
    subst hc
    obtain ⟨z, r1, r2⟩ := resultRaw_sound h hR e1 hx0
    have hrun : (results fn a.tmps).run P w = .ok z w := by
     have := results_run (P := P) (w := w) (fn := fn) (tmps := a.tmps) (vs := [z]) (by rw [hrv]; simp [r1])
     simpa using this
    obtain ⟨G2, q⟩ := ownResult_sound h hll hkc (nlc := nlc) r2 hf0
    exact ⟨z, G2, hrun, q⟩
   ·cases hc
  ·cases hf
 ·obtain ⟨l, hl, hf⟩ := Option.map_eq_some_iff.1 hf
  injection hf with hf1 hf2
  subst hf1 hf2
  obtain ⟨vs, v1, v2, v3⟩ := resultsOf_run h hR hll hg hkc (nlc := nlc) hc hl
  exact ⟨_, _, results_run v1, hp, by simp [Sig.pop, h.len], rfl, hI, hkeep, fun _ _ e => e, packed_rel v2 v3⟩
end
end Go.Ax

/-
  One operation of a region, calls with it.
-/
namespace Go.Ax
open Go.RowKit
def fenceOf : Option Nat → Fence
 | none => Fence.wide
 | some r => Fence.wide.inRound r
theorem fenceOf_fn (rd : Option Nat) (f : FuncId) : (fenceOf rd).fn f := by cases rd <;> exact trivial
theorem fenceOf_depth (rd : Option Nat) : (fenceOf rd).depth = none := by cases rd <;> rfl
theorem fenceOf_round (rd : Option Nat) : (fenceOf rd).round = rd := by cases rd <;> rfl
theorem fenceOf_calls (rd : Option Nat) {n : Nat} {P : Program} {f : FuncId} {args : Array Value} {w : World} {R : Ending → World → Prop} (h : Calls P f args w R) : CallsIn (fenceOf rd) n P f args w R := by
 have := (callsIn_wide (n := n)).2 h
 cases rd
 ·exact this
 ·exact this
theorem fenceOf_round_in (rd : Option Nat) {n : Nat} {P : Program} {l : Nat} {f : FuncId} {tmps : Array Value} {assign body : Code} {w : World} {R : Ending → World → Prop} (h : RoundIn Fence.wide n P l f tmps assign body w R) :
  RoundIn (fenceOf rd) n P l f tmps assign body w R := by
 cases rd
 ·exact h
 ·exact h
def HasBody (P : Program) (f : FuncId) : Prop := ∃ fn c, P.funcs[f]? = some fn ∧ fn.body = some c ∧ (fn.name == "runtime.NumGoroutine") = false
theorem HasBody.run {P : Program} {f : FuncId} (h : HasBody P f) (args : Array Value) (w : World) : (callFunc f args).run P w = .ok (.enter f args) w := by
 obtain ⟨fn, c, h1, h2, h3⟩ := h
 simp only [callFunc, Sem.run_bind, run_program, Result.andThen_ok, h1, h3, h2, Option.isNone_some, Bool.false_eq_true, if_false]
 rfl
section
variable {P : Program} {B0 : Nat} {w0 : World}
def CallTo (P : Program) (B0 : Nat) (w0 : World) (G : Ghost) (k nl : Nat) (s s' : Sig) (w' : World) (x : AV) (x' : Value) : Prop :=
 ∃ G', SRel P B0 w0 G' s' w' ∧ s'.acts.length = s.acts.length ∧ s'.loops.length = s.loops.length ∧ GLe (k + 1) s.loops.length G G' ∧ Rel G' k nl x x'
structure CallSound (P : Program) (B0 : Nat) (w0 : World) (call : CallF) : Prop where
 fn : ∀ (G : Ghost) (k nl : Nat) (s : Sig) (w : World) (f : FuncId) (args : List AV) (xs : Array Value) (res : AV) (s' : Sig), SRel P B0 w0 G s w → s.acts.length ≤ k + 1 → k ≤ s.acts.length → nl ≤ s.loops.length → xs.size = args.length →
  (∀ i (hi : i < args.length), Rel G k nl args[i] (xs.getD i Go.undef)) → call (.fn f) args s = some (res, s') →
  HasBody P f ∧ Calls P f xs w fun e w' => ∃ z, e = .returned z ∧ CallTo P B0 w0 G k nl s s' w' res z
 yield : ∀ (G : Ghost) (k nl : Nat) (s : Sig) (w : World) (l r : Nat) (args : List AV) (xs : Array Value) (res : AV) (s' : Sig), SRel P B0 w0 G s w → s.acts.length ≤ k + 1 → k ≤ s.acts.length → nl ≤ s.loops.length → l < nl → G.loops[l]? = some r → xs.size = args.length →
  (∀ i (hi : i < args.length), Rel G k nl args[i] (xs.getD i Go.undef)) → call (.yield l) args s = some (res, s') →
  ∃ rc : Loop, w.heap[r]? = some (.loop rc) ∧ xs.size = rc.params.size ∧ ∀ n, RoundIn Fence.wide n P r rc.fn ((rc.params.zip xs).foldl (fun tmps (t, a) => tmps.setIfInBounds t a) rc.tmps) rc.assign rc.body w
   fun e w' => ∃ z, e = .returned z ∧ CallTo P B0 w0 G k nl s s' w' res z
structure Fr (s s' : Sig) : Prop where
 alen : s'.acts.length = s.acts.length
 llen : s'.loops.length = s.loops.length
 ro : s'.ro = s.ro
 lro : s'.lro = s.lro
 acts : ∀ d, d < s.ro → s'.acts[d]? = s.acts[d]?
 loops : ∀ l, l < s.lro → s'.loops[l]? = s.loops[l]?
def RoOk (call : CallF) : Prop := ∀ t args s x s', s.ro ≤ s.acts.length → s.lro ≤ s.loops.length → call t args s = some (x, s') → Fr s s'
theorem SRel.of_eq {G : Ghost} {s s' : Sig} {w : World} (h : SRel P B0 w0 G s w) (ha : s'.acts = s.acts) (hl : s'.loops = s.loops) : SRel P B0 w0 G s' w := by
 obtain ⟨h1, h2, h3, h4, h5, h6, h7, h8, h9, h10⟩ := h
 exact ⟨h1, by rw [ha]; exact h2, by rw [hl]; exact h3, by rw [ha]; exact h4, by rw [hl]; exact h5, by rw [hl]; exact h6, h7, h8, h9, h10⟩
inductive TargetRel (G : Ghost) (nl : Nat) : Target → (Array Value → Sem Next) → Prop
 | fn (f : FuncId) : TargetRel G nl (.fn f) (callFunc f)
 | yield {l r : Nat} (hl : l < nl) (h : G.loops[l]? = some r) : TargetRel G nl (.yield l) (Instr.yield r)
variable {G : Ghost} {k nl : Nat} {w : World} {s s' : Sig}
theorem doCall_cases {call : CallF} (hro : RoOk call) {ro : Bool} {t : Target} {args : List AV} {x : AV} (h : doCall call ro s t args = some (x, s')) :
  ∃ s1 s2, s1.acts = s.acts ∧ s1.loops = s.loops ∧ call t args s1 = some (x, s2) ∧ s'.acts = s2.acts ∧ s'.loops = s2.loops := by
 unfold doCall at h
 split at h
 ·obtain ⟨p, hp, h⟩ := Option.map_eq_some_iff.1 h
  obtain ⟨y, s2⟩ := p
  injection h with h1 h2
  subst h1 h2
  obtain ⟨r1, r2, _, _, r3, r4⟩ := hro _ _ _ _ _ (Nat.le_refl _) (Nat.le_refl _) hp
  refine ⟨{ s with ro := s.acts.length, lro := s.loops.length }, s2, rfl, rfl, hp, ?_, ?_⟩
  ·refine List.ext_getElem r1.symm fun d h1 h2 => ?_
   have := r3 d h1
   simp only at this
   rw [List.getElem?_eq_getElem h1, List.getElem?_eq_getElem h2] at this
   injection this with this
   exact this.symm
  ·refine List.ext_getElem r2.symm fun d h1 h2 => ?_
   have := r4 d h1
   simp only at this
   rw [List.getElem?_eq_getElem h1, List.getElem?_eq_getElem h2] at this
   injection this with this
   exact this.symm
 ·exact ⟨s, s', rfl, rfl, h, rfl, rfl⟩
theorem CallTo.step {s1 s2 : Sig} {w' : World} {x : AV} {z : Value} (h : At P B0 w0 G k nl s w) (e1 : s1.acts = s.acts) (e2 : s1.loops = s.loops) (e3 : s'.acts = s2.acts) (e4 : s'.loops = s2.loops)
  (hc : CallTo P B0 w0 G k nl s1 s2 w' x z) : StepTo P B0 w0 G k nl s s' w' x z := by
 obtain ⟨G', h1, h2, h3, h4, h5⟩ := hc
 rw [e2] at h4 h3
 rw [e1] at h2
 have hs := h1.of_eq e3 e4
 exact ⟨G', h.to hs (h4.less (by omega) h.nle) (by rw [e3, h2]), h4, by rw [e4, h3], h5⟩
def PostTo (P : Program) (B0 : Nat) (w0 : World) (G : Ghost) (k nl : Nat) (s : Sig) (a : Act) (st' : St) (a' : Act) (w' : World) : Prop :=
 ∃ G', At P B0 w0 G' k nl st'.sig w' ∧ GLe (k + 1) s.loops.length G G' ∧ st'.sig.loops.length = s.loops.length ∧ TmpsRel G' k nl st'.tmps a' ∧ a'.tmps.size = a.tmps.size ∧ a'.defers = a.defers
theorem TmpsRel.put {ρ : Nat → AV} {a : Act} (h : TmpsRel G k nl ρ a) {dst : Option Nat} (hd : ∀ t, dst = some t → t < a.tmps.size) {x : AV} {v : Value} (hx : Rel G k nl x v) : TmpsRel G k nl (putT ρ dst x) (a.put dst v) := by
 cases dst with
 | none => exact h
 | some t =>
  intro u
  have ht := hd t rfl
  simp only [putT, Act.put, Ax.put]
  by_cases hu : u = t
  ·subst hu
   rw [if_pos rfl]
   have : (a.tmps.setIfInBounds u v).getD u Go.undef = v := by simp [Array.getD, ht]
   rw [this]
   exact hx
  ·rw [if_neg hu]
   have : (a.tmps.setIfInBounds t v).getD u Go.undef = a.tmps.getD u Go.undef := by
    by_cases hlt : u < a.tmps.size
    ·simp [Array.getD, hlt, Ne.symm hu]
    ·simp [Array.getD, hlt]
   rw [this]
   exact h u
theorem TmpsRel.mono {G' : Ghost} {ρ : Nat → AV} {a : Act} (h : TmpsRel G k nl ρ a) (hle : GLe k nl G G') : TmpsRel G' k nl ρ a := fun t => (h t).mono hle (Nat.le_refl _) (Nat.le_refl _)
theorem put_size (a : Act) (dst : Option Nat) (v : Value) : (a.put dst v).tmps.size = a.tmps.size := by
 cases dst with
 | none => rfl
 | some t => simp [Act.put]
theorem put_defers (a : Act) (dst : Option Nat) (v : Value) : (a.put dst v).defers = a.defers := by
 cases dst <;> rfl
theorem StepTo.post {a : Act} {ρ : Nat → AV} {dst : Option Nat} {w' : World} {x : AV} {v : Value} (h : At P B0 w0 G k nl s w) (hR : TmpsRel G k nl ρ a) (hd : ∀ t, dst = some t → t < a.tmps.size) (hs : StepTo P B0 w0 G k nl s s' w' x v) :
  PostTo P B0 w0 G k nl s a ⟨putT ρ dst x, s'⟩ (a.put dst v) w' := by
 obtain ⟨G', h1, h2, h3, h4⟩ := hs
 exact ⟨G', h1, h2, h3, (hR.mono (h2.less (by omega) h.nle)).put hd h4, put_size _ _ _, put_defers _ _ _⟩
theorem Rel.bool_iff {x : AV} {b : Bool} (h : Rel G k nl x (.bool b)) : x = .v (.bool b) := by
 cases h with
 | cl h => cases h with | v h => rfl
theorem wanted_eq {all : List Oper} {o : Oper} {g : Option (Nat × Bool)} {ρ : Nat → AV} {a : Act} (hg : compGuard all o.guard = some g) (hR : TmpsRel G k nl ρ a) : Region.wanted o (yielded all.toArray a.tmps) = wantedT ρ g := by
  unfold Region.wanted
  cases hgo : o.guard with
  | none =>
    rw [hgo] at hg
    simp only [compGuard, Option.some.injEq] at hg
    subst hg
    rfl
  | some p =>
    obtain ⟨j, b⟩ := p
    rw [hgo] at hg
    simp only [compGuard] at hg
    split at hg
    · rename_i t ht
      injection hg with hg
      subst hg
      simp only [wantedT, yielded]
      have e : (all.toArray[j]?).bind (·.dst) = some t := by simpa using ht
      rw [e]
      simp only [Option.bind_some]
      have hr := hR t
      by_cases hb : ∃ c, a.tmps.getD t Go.undef = .bool c
      · obtain ⟨c, hc⟩ := hb
        rw [hc] at hr
        rw [hr.bool_iff]
        have : a.tmps[t]? = some (.bool c) := by
          by_cases hlt : t < a.tmps.size
          · have : a.tmps.getD t Go.undef = a.tmps[t] := by simp [Array.getD, hlt]
            rw [this] at hc
            rw [Array.getElem?_eq_getElem hlt, hc]
          · have : a.tmps.getD t Go.undef = Go.undef := by simp [Array.getD, hlt]
            rw [this] at hc
            cases hc
        rw [this]
        simp [wantedV]
      · have h1 : (match a.tmps[t]? with | some (.bool b) => some b | _ => none) = (none : Option Bool) := by
          split
          · rename_i b hb'
            exact absurd ⟨b, by
              obtain ⟨hlt, hb''⟩ := Array.getElem?_eq_some_iff.1 hb'
              simp [Array.getD, hlt, hb'']⟩ hb
          · rfl
        have h2 : wantedV b (ρ t) = false := by
          unfold wantedV
          split
          · rename_i c hc
            rw [hc] at hr
            exact absurd ⟨c, hr.inv_v⟩ hb
          · rfl
        rw [h2]
        first
          | (rw [h1]; rfl)
          | (split
             · rename_i c hc
               exact absurd ⟨c, by
                 obtain ⟨hlt, hb''⟩ := Array.getElem?_eq_some_iff.1 hc
                 simp [Array.getD, hlt, hb'']⟩ hb
             · rfl)
    · cases hg
theorem targets_sound {call : CallF} (hcall : CallSound P B0 w0 call) (hro : RoOk call) {rd : Option Nat} {n : Nat} {ro : Bool} {t : Target} {tv : Array Value → Sem Next} {args : List AV} {xs : Array Value} {x : AV} (h : At P B0 w0 G k nl s w)
  (ht : TargetRel G nl t tv) (hl : xs.size = args.length) (hR : ∀ i (hi : i < args.length), Rel G k nl args[i] (xs.getD i Go.undef)) (hc : doCall call ro s t args = some (x, s'))
  {o : Oper} {a : Act} {K : Act → World → Prop} {Q : Exit → Act → World → Prop} (hK : ∀ z w', StepTo P B0 w0 G k nl s s' w' x z → K (a.put o.dst z) w') :
  o.uponIn (fenceOf rd) n P a K Q ((tv xs).run P w) := by
 obtain ⟨s1, s2, e1, e2, hc, e3, e4⟩ := doCall_cases hro hc
 have hs1 : SRel P B0 w0 G s1 w := h.rel.of_eq e1 e2
 have hdep : (fenceOf rd).depth.isSome = true → 1 ≤ n := by rw [fenceOf_depth]; intro h; cases h
 cases ht with
 | fn f =>
  obtain ⟨hb, hcs⟩ := hcall.fn G k nl s1 w f args xs x s2 hs1 (by rw [e1, h.len]; exact Nat.le_refl _) (by rw [e1, h.len]; exact Nat.le_succ _) (by rw [e2]; exact h.nle) hl hR hc
  rw [hb.run]
  simp only [Oper.uponIn_enter]
  refine ⟨hdep, CallsIn.mono (fenceOf_calls rd hcs) fun e w' he => ?_⟩
  obtain ⟨z, rfl, hz⟩ := he
  exact hK z w' (hz.step h e1 e2 e3 e4)
 | @yield l r hl' hr =>
  obtain ⟨rc, hrc, hsz, hround⟩ := hcall.yield G k nl s1 w l r args xs x s2 hs1 (by rw [e1, h.len]; exact Nat.le_refl _) (by rw [e1, h.len]; exact Nat.le_succ _) (by rw [e2]; exact h.nle) hl' hr hl hR hc
  rw [run_yield hrc hsz]
  simp only [Oper.uponIn_round]
  refine ⟨hdep, RoundIn.mono (fenceOf_round_in rd (hround (n - 1))) fun e w' he => ?_⟩
  obtain ⟨z, rfl, hz⟩ := he
  exact hK z w' (hz.step h e1 e2 e3 e4)
theorem ofValue_run {f : Value} {fn : Fn} {first caps : Array Value} (hf : f = .func fn first caps) (args : Array Value) (w : World) : (Deferred.ofValue f args).run P w = .ok { target := .fn fn caps, args := first ++ args } w := by
 subst hf
 rfl
theorem getD_append (xs ys : Array Value) (i : Nat) : (xs ++ ys).getD i Go.undef = if i < xs.size then xs.getD i Go.undef else ys.getD (i - xs.size) Go.undef := by
 by_cases h1 : i < xs.size
 ·rw [if_pos h1]
  have : i < (xs ++ ys).size := by simp; omega
  simp [Array.getD, h1, Array.getElem_append_left, this]
  omega
 ·rw [if_neg h1]
  by_cases h2 : i - xs.size < ys.size
  ·have : i < (xs ++ ys).size := by simp; omega
   have h3 : i < xs.size + ys.size := by omega
   simp [Array.getD, h2, h3, Array.getElem_append_right (Nat.le_of_not_lt h1)]
  ·have : ¬ i < xs.size + ys.size := by omega
   simp [Array.getD, h2, this]
theorem callv_sound {call : CallF} (hcall : CallSound P B0 w0 call) (hro : RoOk call) {rd : Option Nat} {n : Nat} {ro : Bool} {f : AV} {fv : Value} {args : List AV} {xs : Array Value} {x : AV} (h : At P B0 w0 G k nl s w)
  (hf : Rel G k nl f fv) (hl : xs.size = args.length) (hR : ∀ i (hi : i < args.length), Rel G k nl args[i] (xs.getD i Go.undef)) (hc : callvOp call ro s f args = some (x, s'))
  {o : Oper} {a : Act} {K : Act → World → Prop} {Q : Exit → Act → World → Prop} (hK : ∀ z w', StepTo P B0 w0 G k nl s s' w' x z → K (a.put o.dst z) w') :
  o.uponIn (fenceOf rd) n P a K Q ((do let d ← Deferred.ofValue fv xs; invoke d.target d.args : Sem Next).run P w) := by
 unfold callvOp at hc
 split at hc
 ·rename_i g first caps
  obtain ⟨a1, a2, rfl, l1, l2, r1, r2⟩ := hf.inv_fn
  have hrun : (do let d ← Deferred.ofValue (.func (.func g) a1 a2) xs; invoke d.target d.args : Sem Next).run P w = (callFunc g (a1 ++ xs ++ a2)).run P w := by
   simp only [Sem.run_bind, ofValue_run (P := P) rfl, Result.andThen_ok]
   rfl
  rw [hrun]
  refine targets_sound hcall hro h (.fn g) (by simp [l1, l2, hl]) (fun i hi => ?_) hc hK
  rw [getD_append, getD_append]
  simp only [List.length_append] at hi
  by_cases h1 : i < first.length
  ·rw [if_pos (by simp; omega), if_pos (by omega)]
   have e : (first ++ args ++ caps)[i] = first[i] := by
    rw [List.getElem_append_left (by simp; omega), List.getElem_append_left h1]
   rw [e]
   exact .cl (r1 i h1)
  ·by_cases h2 : i < first.length + args.length
   ·rw [if_pos (by simp; omega), if_neg (by omega)]
    have e : (first ++ args ++ caps)[i] = args[i - first.length]'(by omega) := by
     rw [List.getElem_append_left (by simp; omega), List.getElem_append_right (by omega)]
    rw [e, l1]
    exact hR _ _
   ·rw [if_neg (by simp; omega)]
    have e : (first ++ args ++ caps)[i] = caps[i - (first.length + args.length)]'(by omega) := by
     rw [List.getElem_append_right (by simp; omega)]
     simp
    rw [e]
    have : (a1 ++ xs).size = first.length + args.length := by simp [l1, hl]
    rw [this]
    exact r2 _ _
 ·rename_i l
  obtain ⟨r, rfl, hl', hr⟩ := hf.inv_yield
  have hrun : (do let d ← Deferred.ofValue (.func (.yield r) #[] #[]) xs; invoke d.target d.args : Sem Next).run P w = (Instr.yield r xs).run P w := by
   simp only [Sem.run_bind, ofValue_run (P := P) rfl, Result.andThen_ok]
   simp [invoke]
  rw [hrun]
  exact targets_sound hcall hro h (.yield hl' hr) hl hR hc hK
 ·cases hc
theorem callo_sound {call : CallF} (hcall : CallSound P B0 w0 call) (hro : RoOk call) {rd : Option Nat} {n : Nat} {f : FuncId} {args : List AV} {xs : Array Value} {x : AV} (h : At P B0 w0 G k nl s w)
  (hl : xs.size = args.length) (hR : ∀ i (hi : i < args.length), Rel G k nl args[i] (xs.getD i Go.undef)) (hc : calloOp call s f args = some (x, s'))
  {o : Oper} {a : Act} {K : Act → World → Prop} {Q : Exit → Act → World → Prop} (hK : ∀ z w', StepTo P B0 w0 G k nl s s' w' x z → K (a.put o.dst z) w') :
  o.uponIn (fenceOf rd) n P a K Q ((callFunc f xs).run P w) := by
 have hdep : (fenceOf rd).depth.isSome = true → 1 ≤ n := by rw [fenceOf_depth]; intro h; cases h
 have hp := push_sound h.rel
 have hlen := h.len
 have hple := G.pushA_le s.loops.length
 obtain ⟨y, s2, hcl⟩ : ∃ y s2, call (.fn f) args { s.push ⟨[], []⟩ with ro := s.acts.length, lro := s.loops.length } = some (y, s2) := by
  unfold calloOp at hc
  split at hc
  ·exact ⟨_, _, by assumption⟩
  ·exact ⟨_, _, by assumption⟩
  ·cases hc
 have hs1 : SRel P B0 w0 (G.pushA s.loops.length) { s.push ⟨[], []⟩ with ro := s.acts.length, lro := s.loops.length } w := hp.rel.of_eq rfl rfl
 have hal : ({ s.push ⟨[], []⟩ with ro := s.acts.length, lro := s.loops.length } : Sig).acts.length = k + 2 := by simp [Sig.push, hlen]
 obtain ⟨hb, hcs⟩ := hcall.fn (G.pushA s.loops.length) (k + 1) s.loops.length _ w f args xs y s2 hs1 (by rw [hal]; exact Nat.le_refl _) (by rw [hal]; exact Nat.le_succ _) (Nat.le_refl _) hl
  (fun i hi => (hR i hi).mono (hple _ _) (Nat.le_succ _) h.nle) hcl
 obtain ⟨f1, f2, _, _, f3, f4⟩ := hro _ _ _ _ _ (by rw [hal, hlen]; exact Nat.le_succ _) (Nat.le_refl _) hcl
 simp only at f1 f2 f3 f4
 have hloops : s2.loops = s.loops := by
  refine List.ext_getElem f2 fun d h1 h2 => ?_
  have := f4 d h2
  rw [List.getElem?_eq_getElem h1] at this
  have h3 : (s.push ⟨[], []⟩).loops[d]? = some s.loops[d] := List.getElem?_eq_getElem h2
  rw [h3] at this
  injection this
 have hlen2 : s2.acts.length = k + 2 := by rw [f1]; simp [Sig.push, hlen]
 have hpop : s2.pop.acts = s.acts := by
  refine List.ext_getElem? fun d => ?_
  simp only [Sig.pop, dropLast_get hlen2]
  by_cases hd : d < k + 1
  ·rw [if_pos hd, f3 d (by rw [hlen]; exact hd)]
   simp only [Sig.push]
   rw [List.getElem?_append_left (by rw [hlen]; exact hd)]
  ·rw [if_neg hd, List.getElem?_eq_none (by rw [hlen]; omega)]
 have hcur : s2.cur = k + 1 := by simp [Sig.cur, hlen2]
 have hscur : s.cur = k := h.cur_eq
 have hnt : ∀ q : Sig, q.acts = s2.acts → q.ntok k = s.ntok k := fun q hq => by
  have : s2.acts[k]? = s.acts[k]? := by
   rw [f3 k (by rw [hlen]; exact Nat.lt_succ_self k)]
   simp only [Sig.push]
   rw [List.getElem?_append_left (by rw [hlen]; exact Nat.lt_succ_self k)]
  simp only [Sig.ntok, hq, this]
 obtain ⟨s3, ho, ha3, hl3⟩ : ∃ s3, ownResult { s2 with ro := s.ro, lro := s.lro } y = some (x, s3) ∧ s3.acts = s'.acts ∧ s3.loops = s'.loops := by
  unfold calloOp at hc
  rw [hcl] at hc
  split at hc
  ·rename_i d g es ys s4 e
   injection e with e
   injection e with e1 e2
   subst e1 e2
   have hc1 : ({ s2 with ro := s.ro, lro := s.lro } : Sig).cur = k + 1 := hcur
   split at hc
   ·rename_i hcond
    obtain ⟨c1, c2, c3, c4⟩ := hcond
    injection hc with hc
    injection hc with hc1' hc2'
    rw [hlen] at c1 c3
    subst c1
    refine ⟨({ s2 with ro := s.ro, lro := s.lro } : Sig).pop.addTok k ys.length, ?_, ?_, ?_⟩
    ·simp only [ownResult]
     rw [if_pos ⟨hc1.symm, by omega, c3, c4⟩, ← hc1', hscur]
     have := hnt { s2 with ro := s.ro, lro := s.lro } rfl
     simp only [Nat.add_sub_cancel, this]
    ·rw [← hc2', hscur]
     have : ({ s2 with ro := s.ro, lro := s.lro } : Sig).pop.acts = s.acts := hpop
     simp only [Sig.addTok, Sig.onRec, this]
    ·rw [← hc2']; exact hloops
   ·rename_i hcond
    injection hc with hc
    injection hc with hc1' hc2'
    refine ⟨({ s2 with ro := s.ro, lro := s.lro } : Sig).pop, ?_, ?_, ?_⟩
    ·simp only [ownResult]
     rw [if_neg (fun q => hcond ⟨by rw [hlen, ← hc1]; exact q.1, by rw [hlen]; omega, by rw [hlen, ← hc1, ← q.1]; exact q.2.2.1, q.2.2.2⟩), hc1']
    ·rw [← hc2']; exact hpop
    ·rw [← hc2']; exact hloops
  ·rename_i y' s4 hno e
   injection e with e
   injection e with e1 e2
   subst e1 e2
   obtain ⟨v, hv, hc⟩ := Option.map_eq_some_iff.1 hc
   injection hc with hc1' hc2'
   subst hc1'
   refine ⟨({ s2 with ro := s.ro, lro := s.lro } : Sig).pop, ?_, ?_, ?_⟩
   ·have hlv : leaveVal { s2 with ro := s.ro, lro := s.lro } y = leaveVal s2 y := leaveVal_ro
    unfold ownResult
    split
    ·rename_i d g es ys
     exact absurd rfl (hno d g es ys)
    ·rw [hlv, hv]; rfl
   ·rw [← hc2']; exact hpop
   ·rw [← hc2']; exact hloops
  ·rename_i e; cases e
 rw [hb.run]
 simp only [Oper.uponIn_enter]
 refine ⟨hdep, CallsIn.mono (fenceOf_calls rd hcs) fun e w' he => ?_⟩
 obtain ⟨z, rfl, G', hsr, q1, q2, hle, hz⟩ := he
 refine hK z w' ?_
 have hgk : (G.pushA s.loops.length).acts[k + 1]? = some ⟨[], [], s.loops.length, [], fun _ => none⟩ := by
  have : G.acts.length = k + 1 := by rw [h.rel.len, hlen]
  simp [Ghost.pushA, this]
 obtain ⟨gr', hg', hrl, _⟩ := hle.acts (k + 1) _ (Nat.le_succ _) hgk
 have hAt : At P B0 w0 G' (k + 1) s.loops.length { s2 with ro := s.ro, lro := s.lro } w' := ⟨hsr.of_eq rfl rfl, hlen2, gr', hg', hrl.nl⟩
 obtain ⟨G2, b1, b2, b3, b4, b5, b6, b7⟩ := ownResult_sound hAt (by show s2.loops.length = _; rw [hloops]) (kc := k) (nlc := nl) (Nat.le_refl _) hz ho
 have hGle : GLe (k + 1) s.loops.length G G2 := by
  refine ⟨fun b i v e => b4 b i v (hle.I b i v e), fun d gr hd e => ?_, fun l r hl e => b6 l r (hle.loops l r hl e)⟩
  have hd' : d < k + 1 := by
   have := (List.getElem?_eq_some_iff.1 e).1
   rw [h.rel.len, hlen] at this; exact this
  have e' : (G.pushA s.loops.length).acts[d]? = some gr := get_old e
  obtain ⟨g1, c1, c2, c3⟩ := hle.acts d gr (by omega) e'
  obtain ⟨g2, c4, c5, c6⟩ := b5 d g1 (by omega) c1
  exact ⟨g2, c4, c2.trans c5, fun _ => c6.trans (c3 (by omega))⟩
 have hs' : SRel P B0 w0 G2 s' w' := b1.of_eq ha3.symm hl3.symm
 exact ⟨G2, h.to hs' (hGle.less (Nat.le_succ _) h.nle) (by rw [← ha3, b2, hlen]), hGle, by rw [← hl3, b3]; exact congrArg List.length hloops, b7⟩
theorem compCall_cases {ro own mu : Bool} {c : Call} {aop : AOp} (h : compCall P ro own mu c = some aop) (hn : isCallA aop = true) : ∃ as f, mapO compOpd c.args.toList = some as ∧ c.callee = .value f ∧
  ((∃ g, f = .func g ∧ (aop = .call ro g as ∨ aop = .callo g as)) ∨ ∃ y, compOpd f = some y ∧ aop = .callv ro y as) := by
 unfold compCall at h
 split at h
 ·cases h
 rename_i as has
 split at h
 ·rename_i g hg
  injection h with h
  refine ⟨as, _, has, hg, .inl ⟨g, rfl, ?_⟩⟩
  split at h
  ·exact .inr h.symm
  ·exact .inl h.symm
 ·rename_i f hf hcal
  obtain ⟨y, hy, rfl⟩ := Option.map_eq_some_iff.1 h
  exact ⟨as, _, has, hcal, .inr ⟨y, hy, rfl⟩⟩
 ·cases h
 ·split at h
  ·split at h
   ·split at h
    ·split at h
     ·injection h with h; subst h; split at hn <;> simp [isCallA] at hn
     ·cases h
    ·cases h
   ·cases h
  ·split at h <;> first | (cases h; done) | (injection h with h; subst h; simp [isCallA] at hn)
  ·injection h with h; subst h; simp [isCallA] at hn
  ·injection h with h; subst h; simp [isCallA] at hn
  ·cases h
theorem compOp_call {md : Md} {op : Op} {aop : AOp} (h : compOp P md op = some aop) (hn : isCallA aop = true) : ∃ c, op = .call c ∧ compCall P md.ro md.own md.mu c = some aop := by
  cases op with
  | call c => exact ⟨c, rfl, h⟩
  | move x => obtain ⟨y, _, rfl⟩ := Option.map_eq_some_iff.1 h; simp [isCallA] at hn
  | assign x => obtain ⟨y, _, rfl⟩ := Option.map_eq_some_iff.1 h; simp [isCallA] at hn
  | alloc x =>
    simp only [compOp] at h
    split at h <;> (obtain ⟨y, _, rfl⟩ := Option.map_eq_some_iff.1 h; simp [isCallA] at hn)
  | nilCheck x => obtain ⟨y, _, rfl⟩ := Option.map_eq_some_iff.1 h; simp [isCallA] at hn
  | unOp _ _ x => obtain ⟨y, _, rfl⟩ := Option.map_eq_some_iff.1 h; simp [isCallA] at hn
  | extract x _ => obtain ⟨y, _, rfl⟩ := Option.map_eq_some_iff.1 h; simp [isCallA] at hn
  | binOp op t x y yt =>
    obtain ⟨_, _, _, _, hq⟩ := compBin_cases h
    rcases hq with rfl | ⟨_, _, _, _, _, _, _, rfl⟩ <;> simp [isCallA] at hn
  | convert src dst x =>
    simp only [compOp] at h
    obtain ⟨y, _, h⟩ := Option.bind_eq_some_iff.1 h
    unfold compConv at h
    repeat' split at h
    all_goals first | (cases h; done) | (injection h with h; subst h; simp [isCallA] at hn)
  | makeFunc fn a b =>
    cases fn <;> simp only [compOp] at h <;> first | (cases h; done) | skip
    split at h
    · injection h with h; subst h; simp [isCallA] at hn
    · cases h
  | _ =>
    simp only [compOp] at h
    first
      | (cases h; done)
      | (repeat' split at h
         all_goals first
          | (cases h; done)
          | (injection h with h; subst h; simp [isCallA] at hn; done)
          | (obtain ⟨_, _, rfl⟩ := Option.map_eq_some_iff.1 h; simp [isCallA] at hn))
def stepA (call : CallF) (o : AOper) (st : St) : Option St :=
 if wantedT st.tmps o.guard then
  match opv call (evalT st.tmps) st.sig o.op with
  | some (x, m) => some ⟨putT st.tmps o.dst x, m⟩
  | none => none
 else some ⟨putT st.tmps o.dst AV.undef, st.sig⟩
theorem ops_cons (call : CallF) (o : AOper) (r : List AOper) (st : St) : ops call (o :: r) st = (stepA call o st).bind (ops call r) := by
 simp only [ops, stepA]
 split
 ·split
  ·rename_i h
   simp [h]
  ·rename_i h
   simp [h]
 ·rfl
theorem op_step {call : CallF} (hcall : CallSound P B0 w0 call) (hro : RoOk call) {rd : Option Nat} {n : Nat} {md : Md} {all : List Oper} {o : Oper} {ao : AOper} {st st' : St} {a : Act} (h : At P B0 w0 G k nl st.sig w) (hR : TmpsRel G k nl st.tmps a)
  (hg : compGuard all o.guard = some ao.guard) (hop : compOp P md o.op = some ao.op) (hdst : ao.dst = o.dst) (hd : ∀ t, ao.dst = some t → t < a.tmps.size) (hs : stepA call ao st = some st')
  {K : Act → World → Prop} {Q : Exit → Act → World → Prop} (hK : ∀ a' w', PostTo P B0 w0 G k nl st.sig a st' a' w' → K a' w') :
  if Region.wanted o (yielded all.toArray a.tmps) then o.wpIn (fenceOf rd) n P a w K Q else (∀ f, o.about P w a.eval = some f → (fenceOf rd).fn f) ∧ K (a.put o.dst Go.undef) w := by
 rw [wanted_eq hg hR]
 unfold stepA at hs
 cases hw : wantedT st.tmps ao.guard with
 | false =>
  rw [hw] at hs
  simp only [Bool.false_eq_true, if_false, Option.some.injEq] at hs ⊢
  subst hs
  refine ⟨fun f _ => fenceOf_fn rd f, hK _ _ ?_⟩
  rw [← hdst]
  exact (StepTo.same h .undef).post h hR hd
 | true =>
  rw [hw] at hs
  simp only [if_true] at hs ⊢
  split at hs
  case h_2 => cases hs
  rename_i x m hv
  injection hs with hs
  subst hs
  refine ⟨fun f _ => fenceOf_fn rd f, ?_⟩
  cases hcl : isCallA ao.op with
  | false =>
   have hnd : ∀ c, o.op ≠ .defer c := fun c e => by rw [e] at hop; simp [compOp] at hop
   rw [Oper.semAt_eq _ _ _ hnd]
   obtain ⟨w', hq⟩ := opv_sound h hR hop hcl hv
   rcases hq with ⟨z, h1, h2⟩ | ⟨h1, h2⟩
   ·rw [h1, Oper.uponIn_value]
    refine hK _ _ ?_
    rw [← hdst]
    exact h2.post h hR hd
   ·rw [h1, Oper.uponIn_skip]
    refine hK _ _ ?_
    rw [← hdst]
    exact h2.post h hR hd
  | true =>
   obtain ⟨c, hc, hcc⟩ := compOp_call hop hcl
   obtain ⟨as, f, has, hcal, hq⟩ := compCall_cases hcc hcl
   have hargs := args_rel has hR
   have hsem : o.semAt (fenceOf rd).round a.eval = (do let d ← Deferred.ofValue (a.eval f) (c.args.map a.eval); invoke d.target d.args) := by
    rw [Oper.semAt_eq _ _ _ (fun c' e => by rw [hc] at e; cases e)]
    unfold execOp
    rw [hc]
    simp only [resolve, hcal]
   rw [hsem]
   have hK' : ∀ z w', StepTo P B0 w0 G k nl st.sig m w' x z → K (a.put o.dst z) w' := fun z w' hst => by
    refine hK _ _ ?_
    rw [← hdst]
    exact hst.post h hR hd
   have hargs' : (c.args.map a.eval).size = (as.map (evalT st.tmps)).length ∧ ∀ i (hi : i < (as.map (evalT st.tmps)).length), Rel G k nl (as.map (evalT st.tmps))[i] ((c.args.map a.eval).getD i Go.undef) := by
    simpa using hargs
   rcases hq with ⟨g, rfl, e | e⟩ | ⟨y, hy, e⟩
   ·rw [e] at hv
    simp only [opv] at hv
    have hv' : callvOp call md.ro st.sig (.fn g [] []) (as.map (evalT st.tmps)) = some (x, m) := by
     simpa [callvOp] using hv
    exact callv_sound hcall hro h (.cl (.fn rfl rfl (fun i hi => absurd hi (Nat.not_lt_zero _)) (fun i hi => absurd hi (Nat.not_lt_zero _)))) hargs'.1 hargs'.2 hv' hK'
   ·rw [e] at hv
    simp only [opv] at hv
    have hrun : (do let d ← Deferred.ofValue (a.eval (.func g)) (c.args.map a.eval); invoke d.target d.args : Sem Next).run P w = (callFunc g (c.args.map a.eval)).run P w := by
     have e1 : a.eval (.func g) = .func (.func g) #[] #[] := rfl
     rw [e1]
     simp only [Sem.run_bind, ofValue_run (P := P) rfl, Result.andThen_ok]
     simp [invoke]
    rw [hrun]
    exact callo_sound hcall hro h hargs'.1 hargs'.2 hv hK'
   ·rw [e] at hv
    exact callv_sound hcall hro h (opd_rel hy hR) hargs'.1 hargs'.2 hv hK'
end
end Go.Ax

/-
  A region in its own order, and one whose order is drawn.
-/
namespace Go.Ax
open Go.RowKit
section
variable {P : Program} {B0 : Nat} {w0 : World} {G : Ghost} {k nl : Nat} {w : World} {s : Sig}
theorem PostTo.trans {a a1 a2 : Act} {st1 st2 : St} {w1 w2 : World} (h : PostTo P B0 w0 G k nl s a st1 a1 w1)
  (h' : ∀ G', At P B0 w0 G' k nl st1.sig w1 → TmpsRel G' k nl st1.tmps a1 → PostTo P B0 w0 G' k nl st1.sig a1 st2 a2 w2) : PostTo P B0 w0 G k nl s a st2 a2 w2 := by
 obtain ⟨G1, h1, h2, h3, h4, h5, h6⟩ := h
 obtain ⟨G2, g1, g2, g3, g4, g5, g6⟩ := h' G1 h1 h4
 rw [h3] at g2 g3
 exact ⟨G2, g1, h2.trans g2, g3, g4, g5.trans h5, g6.trans h6⟩
theorem ops_sound {call : CallF} (hcall : CallSound P B0 w0 call) (hro : RoOk call) {rd : Option Nat} {n : Nat} {all : List Oper} {md : Nat → Md} {Q : Exit → Act → World → Prop} : ∀ (l : List Oper) (i : Nat) (al : List AOper) (G : Ghost) (st st' : St) (a : Act) (w : World),
  compOpers P all md i l = some al → At P B0 w0 G k nl st.sig w → TmpsRel G k nl st.tmps a → (∀ o, o ∈ al → ∀ t, o.dst = some t → t < a.tmps.size) → ops call al st = some st' →
  (∀ a' w', PostTo P B0 w0 G k nl st.sig a st' a' w' → Q .normal a' w') → wpListIn (fenceOf rd) n P all.toArray Q l a w
 | [], i, al, G, st, st', a, w, hc, h, hR, hd, hs, hQ => by
  simp only [compOpers] at hc
  injection hc with hc
  subst hc
  simp only [ops] at hs
  injection hs with hs
  subst hs
  exact hQ a w ⟨G, h, .refl _ _ _, rfl, hR, rfl, rfl⟩
 | o :: r, i, al, G, st, st', a, w, hc, h, hR, hd, hs, hQ => by
  simp only [compOpers] at hc
  split at hc
  ·rename_i g op rest e1 e2 e3
   injection hc with hc
   subst hc
   rw [ops_cons] at hs
   obtain ⟨st1, hs1, hs2⟩ := Option.bind_eq_some_iff.1 hs
   unfold wpListIn
   refine op_step hcall hro h hR (ao := ⟨o.dst, g, op⟩) e1 e2 rfl (fun t ht => hd _ (by simp) t ht) hs1 fun a1 w1 hp => ?_
   obtain ⟨G1, g1, g2, g3, g4, g5, g6⟩ := hp
   refine ops_sound hcall hro r (i + 1) rest G1 st1 st' a1 w1 e3 g1 g4 (fun o' ho t ht => by rw [g5]; exact hd o' (by simp [ho]) t ht) hs2 fun a' w' hp' => hQ a' w' ?_
   obtain ⟨G2, q1, q2, q3, q4, q5, q6⟩ := hp'
   rw [g3] at q2 q3
   exact ⟨G2, q1, g2.trans q2, q3, q4, q5.trans g5, q6.trans g6⟩
  ·cases hc
def SameBoxes (m m' : Sig) : Prop := ∀ d b, m'.box d b = m.box d b
theorem SameBoxes.load {m m' : Sig} (h : SameBoxes m m') (agg : Bool) (n : Nat) (x : AV) : m'.load agg n x = m.load agg n x := by
 have : m'.row x = m.row x := by cases x <;> simp [Sig.row, h _ _]
 simp [Sig.load, this]
def agreeOn (l : List Nat) (ρ ρ' : Nat → AV) : Prop := ∀ t, t ∈ l → ρ t = ρ' t
theorem evalT_agree {x : AOpd} {ρ ρ' : Nat → AV} (h : agreeOn (readsOpd x) ρ ρ') : evalT ρ x = evalT ρ' x := by
 cases x with
 | tmp t => exact h t (by simp [readsOpd])
 | const c => rfl
theorem agree_left {l l' : List Nat} {ρ ρ' : Nat → AV} (h : agreeOn (l ++ l') ρ ρ') : agreeOn l ρ ρ' := fun t ht => h t (List.mem_append_left _ ht)
theorem agree_right {l l' : List Nat} {ρ ρ' : Nat → AV} (h : agreeOn (l ++ l') ρ ρ') : agreeOn l' ρ ρ' := fun t ht => h t (List.mem_append_right _ ht)
theorem agree_list {xs : List AOpd} {ρ ρ' : Nat → AV} (h : agreeOn (xs.flatMap readsOpd) ρ ρ') : xs.map (evalT ρ) = xs.map (evalT ρ') := by
 induction xs with
 | nil => rfl
 | cons x r ih =>
  simp only [List.flatMap_cons] at h
  simp only [List.map_cons]
  rw [evalT_agree (agree_left h), ih (agree_right h)]
theorem agree_opt {x : Option AOpd} {ρ ρ' : Nat → AV} (h : agreeOn (readsOpt x) ρ ρ') : evalOpt (evalT ρ) x = evalOpt (evalT ρ') x := by
 cases x with
 | none => rfl
 | some x => simp only [evalOpt]; rw [evalT_agree h]
theorem agree_cells {ps : List (Nat × Nat × AOpd)} {ρ ρ' : Nat → AV} (h : agreeOn (ps.flatMap fun p => readsOpd p.2.2) ρ ρ') (cs : List AV) : buildCells cs (evalT ρ) ps = buildCells cs (evalT ρ') ps := by
 induction ps generalizing cs with
 | nil => rfl
 | cons p r ih =>
  obtain ⟨o, z, x⟩ := p
  simp only [List.flatMap_cons] at h
  simp only [buildCells]
  rw [evalT_agree (agree_left h)]
  split
  ·exact ih (agree_right h) _
  ·rfl
theorem agree_rows {ps : List (Nat × AOpd)} {ρ ρ' : Nat → AV} (h : agreeOn (ps.flatMap fun p => readsOpd p.2) ρ ρ') (rs : List (List AV)) : buildRows rs (evalT ρ) ps = buildRows rs (evalT ρ') ps := by
 induction ps generalizing rs with
 | nil => rfl
 | cons p r ih =>
  obtain ⟨o, x⟩ := p
  simp only [List.flatMap_cons] at h
  simp only [buildRows]
  rw [evalT_agree (agree_left h)]
  split
  ·split
   ·exact ih (agree_right h) _
   ·rfl
  ·rfl
theorem opv_agree {call : CallF} {op : AOp} {ρ ρ' : Nat → AV} (h : agreeOn (readsOp op) ρ ρ') (m : Sig) : opv call (evalT ρ) m op = opv call (evalT ρ') m op := by
 cases op <;> simp only [readsOp] at h <;> simp only [opv] <;> first
  | rfl
  | (rw [evalT_agree h]; done)
  | (rw [evalT_agree (agree_left h), evalT_agree (agree_right h)]; done)
  | (rw [evalT_agree (agree_left (agree_left h)), evalT_agree (agree_right (agree_left h)), evalT_agree (agree_right h)]; done)
  | (rw [agree_cells h]; done)
  | (rw [agree_rows h]; done)
  | (rw [agree_list h]; done)
  | (rw [agree_list (agree_left h), agree_list (agree_right h)]; done)
  | (rw [evalT_agree (agree_left h), agree_list (agree_right h)]; done)
  | (rw [evalT_agree (agree_left (agree_left (agree_left h))), agree_opt (agree_right (agree_left (agree_left h))), agree_opt (agree_right (agree_left h)), agree_opt (agree_right h)]; done)
theorem opv_pure {call : CallF} {op : AOp} (h : classOf op = .pure) : ∃ f : (AOpd → AV) → Option AV, ∀ ρ m, opv call ρ m op = (f ρ).map (·, m) := by
 cases op <;> simp only [classOf] at h <;> first
  | (cases h; done)
  | (split at h <;> cases h; done)
  | exact ⟨_, fun ρ m => rfl⟩
  | skip
 case move x => exact ⟨fun ρ => some (ρ x), fun _ _ => rfl⟩
 case build zs ps => exact ⟨fun ρ => (buildCells zs ρ ps).map .agg, fun ρ m => by simp only [opv, Option.map_map]; rfl⟩
 case buildSlice es rs ps => exact ⟨fun ρ => (buildRows rs ρ ps).map (.slice .full es), fun ρ m => by simp only [opv, Option.map_map]; rfl⟩
 case eqv neg kd x y => exact ⟨fun ρ => (eqOp kd (ρ x) (ρ y)).map fun t => .v (.bool (if neg then !t else t)), fun ρ m => by simp only [opv, Option.map_map]; rfl⟩
 case mkFn f a b => exact ⟨fun ρ => if (a.map ρ).all AV.isClosedV then some (.fn f (a.map ρ) (b.map ρ)) else none, fun ρ m => by simp only [opv]; split <;> rfl⟩
 case lenArr n => exact ⟨fun _ => some (AV.int n), fun _ _ => rfl⟩
theorem box_toks {m : Sig} {d : Nat} {f : Rec → Rec} (hf : ∀ r, (f r).boxes = r.boxes) : SameBoxes m (m.onRec d f) := fun d' b => by
 simp only [Sig.box, Sig.onRec, modify_get]
 by_cases h : d = d'
 ·subst h
  rw [if_pos rfl]
  cases m.acts[d]? with
  | none => rfl
  | some r => simp [hf]
 ·rw [if_neg h]
theorem opv_soft {call : CallF} {op : AOp} (h : classOf op = .soft) {ρ : AOpd → AV} {m m' : Sig} {x : AV} (ho : opv call ρ m op = some (x, m')) : SameBoxes m m' := by
 cases op <;> simp only [classOf] at h <;> first | (cases h; done) | skip
 case call ro f as =>
  cases ro
  ·cases h
  ·simp only [opv, doCall, if_true] at ho
   obtain ⟨p, _, ho⟩ := Option.map_eq_some_iff.1 ho
   injection ho with _ ho
   subst ho
   exact fun _ _ => rfl
 case callv ro f as =>
  cases ro
  ·cases h
  ·simp only [opv, callvOp] at ho
   split at ho
   ·simp only [doCall, if_true] at ho
    obtain ⟨p, _, ho⟩ := Option.map_eq_some_iff.1 ho
    injection ho with _ ho
    subst ho
    exact fun _ _ => rfl
   ·simp only [doCall, if_true] at ho
    obtain ⟨p, _, ho⟩ := Option.map_eq_some_iff.1 ho
    injection ho with _ ho
    subst ho
    exact fun _ _ => rfl
   ·cases ho
 case callo f as =>
  simp only [opv, calloOp] at ho
  split at ho
  ·split at ho
   ·injection ho with ho
    injection ho with _ ho
    subst ho
    exact box_toks fun r => rfl
   ·injection ho with ho
    injection ho with _ ho
    subst ho
    exact fun _ _ => rfl
  ·obtain ⟨_, _, ho⟩ := Option.map_eq_some_iff.1 ho
   injection ho with _ ho
   subst ho
   exact fun _ _ => rfl
  ·cases ho
 case append es a b =>
  simp only [opv, appendOp] at ho
  split at ho
  ·split at ho
   ·injection ho with ho
    injection ho with _ ho
    subst ho
    exact fun _ _ => rfl
   ·split at ho
    ·split at ho
     ·injection ho with ho
      injection ho with _ ho
      subst ho
      exact box_toks fun r => rfl
     ·injection ho with ho
      injection ho with _ ho
      subst ho
      exact box_toks fun r => rfl
     ·split at ho
      ·injection ho with ho
       injection ho with _ ho
       subst ho
       exact box_toks fun r => rfl
      ·cases ho
     ·cases ho
    ·cases ho
  ·cases ho
theorem opv_load {call : CallF} {op : AOp} (h : classOf op = .load) {ρ : AOpd → AV} {m m' : Sig} (hs : SameBoxes m m') : ∃ r : Option AV, opv call ρ m op = r.map (·, m) ∧ opv call ρ m' op = r.map (·, m') := by
 cases op <;> simp only [classOf] at h <;> first | (cases h; done) | (split at h <;> cases h; done) | skip
 case load agg n x => exact ⟨m.load agg n (ρ x), rfl, by simp only [opv]; rw [hs.load]⟩
def Grows (m m' : Sig) : Prop := ∀ d b cs, m.box d b = some cs → ∃ cs', m'.box d b = some cs' ∧ (cs' = cs ∨ cs = [])
theorem Grows.newBox (m : Sig) (cs : List AV) : Grows m (m.newBox cs).2 := fun d b ds h => by
 refine ⟨ds, ?_, .inl rfl⟩
 simp only [Sig.box, Sig.newBox, Sig.addBox, Sig.onRec, modify_get] at h ⊢
 by_cases hd : m.cur = d
 ·subst hd
  rw [if_pos rfl]
  cases hr : m.acts[m.cur]? with
  | none => rw [hr] at h; cases h
  | some r =>
   rw [hr] at h
   exact get_old h
 ·rw [if_neg hd]
  exact h
theorem cur_setBox (m : Sig) (d b : Nat) (cs : List AV) : (m.setBox d b cs).cur = m.cur := by simp [Sig.cur, Sig.setBox, Sig.onRec]
theorem box_setBox (m : Sig) (d b : Nat) (cs : List AV) (d' b' : Nat) : (m.setBox d b cs).box d' b' = if d = d' ∧ b = b' then (m.box d' b').map fun _ => cs else m.box d' b' := by
 simp only [Sig.box, Sig.setBox, Sig.onRec, modify_get]
 by_cases hd : d = d'
 ·subst hd
  rw [if_pos rfl]
  cases m.acts[d]? with
  | none => simp
  | some r =>
   simp only [Option.map_some, Option.bind_some, List.getElem?_set]
   by_cases hb : b = b'
   ·subst hb
    simp only [true_and, if_pos]
    by_cases hlt : b < r.boxes.length
    ·simp [hlt]
    ·simp [hlt, List.getElem?_eq_none (Nat.le_of_not_lt hlt)]
   ·simp [hb]
 ·simp [hd]
theorem nbox_setBox (m : Sig) (d b : Nat) (cs : List AV) (d' : Nat) : (m.setBox d b cs).nbox d' = m.nbox d' := by
 simp only [Sig.nbox, Sig.setBox, Sig.onRec, modify_get]
 by_cases hd : d = d'
 ·subst hd
  rw [if_pos rfl]
  cases m.acts[d]? <;> simp
 ·simp [hd]
theorem setBox_comm (m : Sig) (d b : Nat) (cs : List AV) (b' : Nat) (cs' : List AV) (hb : b ≠ b') : (m.setBox d b cs).setBox d b' cs' = (m.setBox d b' cs').setBox d b cs := by
 simp only [Sig.setBox, Sig.onRec]
 congr 1
 refine List.ext_getElem? fun i => ?_
 simp only [modify_get]
 by_cases hd : d = i
 ·subst hd
  simp only [if_pos]
  cases m.acts[d]? with
  | none => rfl
  | some r =>
   simp only [Option.map_some, Option.some.injEq]
   congr 1
   exact List.set_comm _ _ hb
 ·simp [hd]
theorem slotOp_spec {m m' : Sig} {back : Nat} {zs : List AV} {v : AV} (h : slotOp m back zs = some (v, m')) :
  m.box m.cur (m.nbox m.cur - back) = some [] ∧ (zs.isEmpty = false ∧ m.ntok m.cur = 0) ∧ v = .ptr m.cur (m.nbox m.cur - back) 0 ∧ m' = m.setBox m.cur (m.nbox m.cur - back) zs := by
 unfold slotOp at h
 split at h
 ·rename_i hb
  split at h
  ·cases h
  ·rename_i hz
   injection h with h
   injection h with h1 h2
   refine ⟨hb, ⟨?_, Classical.byContradiction fun e => hz (.inr e)⟩, h1.symm, h2.symm⟩
   cases he : zs.isEmpty with
   | false => rfl
   | true => exact absurd (.inl he) hz
 ·cases h
theorem slotOp_of {m : Sig} {back : Nat} {zs : List AV} (h1 : m.box m.cur (m.nbox m.cur - back) = some []) (h2 : zs.isEmpty = false ∧ m.ntok m.cur = 0) :
  slotOp m back zs = some (.ptr m.cur (m.nbox m.cur - back) 0, m.setBox m.cur (m.nbox m.cur - back) zs) := by
 unfold slotOp
 rw [h1]
 simp [h2.1, h2.2]
theorem ntok_setBox (m : Sig) (d b : Nat) (cs : List AV) (d' : Nat) : (m.setBox d b cs).ntok d' = m.ntok d' := by
 simp only [Sig.ntok, Sig.setBox, Sig.onRec, List.getElem?_modify]
 by_cases h : d = d'
 ·subst h
  cases m.acts[d]? <;> simp
 ·simp [h]
theorem slot_swap {m m1 m2 : Sig} {b1 b2 : Nat} {z1 z2 : List AV} {v u : AV} (h1 : slotOp m b1 z1 = some (v, m1)) (h2 : slotOp m1 b2 z2 = some (u, m2)) :
  ∃ m1', slotOp m b2 z2 = some (u, m1') ∧ slotOp m1' b1 z1 = some (v, m2) := by
 obtain ⟨a1, a2, rfl, rfl⟩ := slotOp_spec h1
 obtain ⟨c1, c2, rfl, rfl⟩ := slotOp_spec h2
 simp only [cur_setBox, nbox_setBox] at c1 ⊢
 rw [cur_setBox, ntok_setBox] at c2
 have hne : m.nbox m.cur - b1 ≠ m.nbox m.cur - b2 := fun e => by
  rw [box_setBox, if_pos ⟨rfl, e⟩, ← e, a1] at c1
  simp only [Option.map_some, Option.some.injEq] at c1
  rw [c1] at a2
  exact absurd a2.1 (by decide)
 have c1' : m.box m.cur (m.nbox m.cur - b2) = some [] := by
  rw [box_setBox, if_neg (fun e => hne e.2)] at c1
  exact c1
 refine ⟨_, slotOp_of c1' c2, ?_⟩
 have := slotOp_of (m := m.setBox m.cur (m.nbox m.cur - b2) z2) (back := b1) (zs := z1) (by
  simp only [cur_setBox, nbox_setBox]
  rw [box_setBox, if_neg (fun e => hne e.2.symm)]
  exact a1) (by rw [cur_setBox, ntok_setBox]; exact a2)
 rw [this]
 simp only [cur_setBox, nbox_setBox]
 rw [setBox_comm _ _ _ _ _ _ (Ne.symm hne)]
theorem opv_fresh {call : CallF} {op : AOp} (h : classOf op = .fresh) {ρ : AOpd → AV} {m m' : Sig} {x : AV} (ho : opv call ρ m op = some (x, m')) : Grows m m' := by
 cases op <;> simp only [classOf] at h <;> first | (cases h; done) | (split at h <;> cases h; done) | skip
 case alloc zs =>
  simp only [opv] at ho
  split at ho
  ·cases ho
  simp only [Option.some.injEq] at ho
  have := Grows.newBox m zs
  rw [ho] at this
  exact this
 case box n y =>
  simp only [opv, boxOp] at ho
  split at ho
  ·injection ho with ho
   have := Grows.newBox m (ρ y).cells
   rw [ho] at this
   exact this
  ·cases ho
 case mkSlice es zs l c =>
  simp only [opv, mkSliceOp] at ho
  obtain ⟨_, _, ho⟩ := Option.bind_eq_some_iff.1 ho
  obtain ⟨_, _, ho⟩ := Option.map_eq_some_iff.1 ho
  split at ho
  ·injection ho with _ ho
   subst ho
   exact fun d b cs e => ⟨cs, e, .inl rfl⟩
  ·injection ho with _ ho
   subst ho
   exact Grows.newBox m _
theorem opv_slot {call : CallF} {op : AOp} {back : Nat} (h : classOf op = .slot back) : ∃ zs, ∀ ρ m, opv call ρ m op = slotOp m back zs := by
 cases op <;> simp only [classOf] at h <;> first | (cases h; done) | (split at h <;> cases h; done) | skip
 case slot back zs => injection h with h; subst h; exact ⟨zs, fun _ _ => rfl⟩
theorem opv_fill {call : CallF} {op : AOp} {back : Nat} (h : classOf op = .fill back) {ρ : AOpd → AV} {m m' : Sig} {v : AV} (ho : opv call ρ m op = some (v, m')) : ∃ cs, m' = m.setBox m.cur (m.nbox m.cur - back) cs := by
 cases op <;> simp only [classOf] at h <;> first | (cases h; done) | (split at h <;> cases h; done) | skip
 case fill b n x y =>
  injection h with h
  subst h
  simp only [opv] at ho
  obtain ⟨m1, hm, ho⟩ := Option.map_eq_some_iff.1 ho
  injection ho with _ ho
  subst ho
  unfold fillOp at hm
  split at hm
  ·split at hm
   ·rename_i hc
    unfold Sig.store at hm
    simp only [hc.1, if_true] at hm
    split at hm
    ·split at hm
     ·cases hm
     ·split at hm
      ·injection hm with hm
       rw [hc.2.1] at hm
       exact ⟨_, hm.symm⟩
      ·cases hm
    ·cases hm
   ·cases hm
  ·cases hm
theorem opv_loadr {call : CallF} {op : AOp} {res back : Nat} (h : classOf op = .loadr res) (hb : back ≤ res) {ρ : AOpd → AV} {m : Sig} (cs : List AV) :
  ∃ r : Option AV, opv call ρ m op = r.map (·, m) ∧ opv call ρ (m.setBox m.cur (m.nbox m.cur - back) cs) op = r.map (·, m.setBox m.cur (m.nbox m.cur - back) cs) := by
 cases op <;> simp only [classOf] at h <;> first | (cases h; done) | (split at h <;> cases h; done) | skip
 case loadr res' agg n x =>
  injection h with h
  subst h
  refine ⟨loadrOp m res' agg n (ρ x), rfl, ?_⟩
  simp only [opv]
  congr 1
  unfold loadrOp
  split
  ·rename_i d b off
   simp only [cur_setBox, nbox_setBox]
   split
   ·rfl
   ·rename_i hn
    simp only [Sig.load, Sig.row]
    rw [box_setBox, if_neg (fun e => hn ⟨e.1.symm, by have := e.2; omega⟩)]
  ·rename_i hx
   simp only [Sig.load]
   congr 1
   generalize ρ x = q at hx
   cases q <;> first | rfl | exact (hx _ _ _ rfl).elim
theorem part_grows {agg : Bool} {n : Nat} {cs cs' : List AV} {off : Nat} {v : AV} (hc : cs' = cs ∨ cs = []) (h : part agg n cs off = some v) : part agg n cs' off = some v := by
 rcases hc with rfl | rfl
 ·exact h
 ·unfold part at h ⊢
  split at h
  ·rename_i ha
   split at h
   ·rename_i hle
    simp only [List.length_nil] at hle
    have h0 : off = 0 := by omega
    have h1 : n = 0 := by omega
    subst h0 h1
    rw [if_pos ha, if_pos (by omega)]
    simpa using h
   ·cases h
  ·simp at h
theorem Grows.load {m m' : Sig} (h : Grows m m') {agg : Bool} {n : Nat} {x v : AV} (hl : m.load agg n x = some v) : m'.load agg n x = some v := by
  unfold Sig.load at hl ⊢
  obtain ⟨p, hp, hl⟩ := Option.bind_eq_some_iff.1 hl
  have : ∃ cs', m'.row x = some (cs', p.2) ∧ (cs' = p.1 ∨ p.1 = []) := by
    cases x <;> first
      | exact ⟨p.1, hp, .inl rfl⟩
      | (simp only [Sig.row] at hp ⊢
         obtain ⟨cs, hcs, rfl⟩ := Option.map_eq_some_iff.1 hp
         obtain ⟨cs', e1, e2⟩ := h _ _ _ hcs
         exact ⟨cs', by rw [e1]; rfl, e2⟩)
  obtain ⟨cs', e1, e2⟩ := this
  rw [e1]
  exact part_grows e2 hl
theorem opv_load_grows {call : CallF} {op : AOp} (h : classOf op = .load) {ρ : AOpd → AV} {m m1 : Sig} {v : AV} (ho : opv call ρ m op = some (v, m1)) : m1 = m ∧ ∀ m', Grows m m' → opv call ρ m' op = some (v, m') := by
 cases op <;> simp only [classOf] at h <;> first | (cases h; done) | (split at h <;> cases h; done) | skip
 case load agg n x =>
  simp only [opv] at ho ⊢
  obtain ⟨q1, q2⟩ := map_pair ho
  simp only at q1 q2
  exact ⟨by first | exact q2 | exact q2.symm, fun m' hg => by rw [hg.load q1]; rfl⟩
end
end Go.Ax

/-
  A region whose order is drawn: every order gives the same.
-/
namespace Go.Ax
open Go.RowKit
section
variable {P : Program} {B0 : Nat} {w0 : World} {G : Ghost} {k nl : Nat} {w : World} {s : Sig}
def coreA (call : CallF) (o : AOper) (ρ : Nat → AV) (m : Sig) : Option (AV × Sig) :=
 if wantedT ρ o.guard then opv call (evalT ρ) m o.op else some (AV.undef, m)
theorem stepA_core (call : CallF) (o : AOper) (st : St) : stepA call o st = (coreA call o st.tmps st.sig).map fun p => ⟨putT st.tmps o.dst p.1, p.2⟩ := by
 unfold stepA coreA
 split
 ·split
  ·rename_i h; simp [h]
  ·rename_i h; simp [h]
 ·rfl
theorem coreA_agree {call : CallF} {o : AOper} {ρ ρ' : Nat → AV} (h : agreeOn (readsOf o) ρ ρ') (m : Sig) : coreA call o ρ m = coreA call o ρ' m := by
 have h1 : agreeOn (readsOp o.op) ρ ρ' := agree_left h
 have h2 : wantedT ρ o.guard = wantedT ρ' o.guard := by
  have h2 := agree_right h
  cases hg : o.guard with
  | none => rfl
  | some p =>
   obtain ⟨t, b⟩ := p
   rw [hg] at h2
   simp only [wantedT]
   rw [h2 t (by simp)]
 simp only [coreA, h2, opv_agree h1]
def mayPass (a b : OpClass) : Bool :=
 match a, b with
 | .pure, _ | _, .pure | .load, .load | .load, .soft | .soft, .load | .load, .fresh | .loadr _, .loadr _ | .slot _, .slot _ => true
 | .loadr r, .slot b | .slot b, .loadr r | .loadr r, .fill b | .fill b, .loadr r => decide (b ≤ r)
 | _, _ => false
theorem core_pure {call : CallF} {o : AOper} (h : classOf o.op = .pure) (ρ : Nat → AV) : ∃ r : Option AV, ∀ m, coreA call o ρ m = r.map (·, m) := by
 obtain ⟨f, hf⟩ := opv_pure (call := call) h
 by_cases hw : wantedT ρ o.guard = true
 ·exact ⟨f (evalT ρ), fun m => by simp only [coreA, if_pos hw, hf]⟩
 ·exact ⟨some AV.undef, fun m => by simp only [coreA, if_neg hw]; rfl⟩
theorem core_load {call : CallF} {o : AOper} (h : classOf o.op = .load) (ρ : Nat → AV) {m m' : Sig} (hs : SameBoxes m m') : ∃ r : Option AV, coreA call o ρ m = r.map (·, m) ∧ coreA call o ρ m' = r.map (·, m') := by
 by_cases hw : wantedT ρ o.guard = true
 ·obtain ⟨r, h1, h2⟩ := opv_load (call := call) h (ρ := evalT ρ) hs
  exact ⟨r, by simp only [coreA, if_pos hw, h1], by simp only [coreA, if_pos hw, h2]⟩
 ·exact ⟨some AV.undef, by simp only [coreA, if_neg hw]; rfl, by simp only [coreA, if_neg hw]; rfl⟩
theorem core_soft {call : CallF} {o : AOper} (h : classOf o.op = .soft) {ρ : Nat → AV} {m m' : Sig} {x : AV} (ho : coreA call o ρ m = some (x, m')) : SameBoxes m m' := by
 unfold coreA at ho
 split at ho
 ·exact opv_soft h ho
 ·injection ho with ho
  injection ho with _ ho
  subst ho
  exact fun _ _ => rfl
theorem core_fresh {call : CallF} {o : AOper} (h : classOf o.op = .fresh) {ρ : Nat → AV} {m m' : Sig} {x : AV} (ho : coreA call o ρ m = some (x, m')) : Grows m m' := by
 unfold coreA at ho
 split at ho
 ·exact opv_fresh h ho
 ·injection ho with ho
  injection ho with _ ho
  subst ho
  exact fun _ _ cs e => ⟨cs, e, .inl rfl⟩
theorem core_slot {call : CallF} {o : AOper} {back : Nat} (h : classOf o.op = .slot back) (ρ : Nat → AV) : (∃ zs, ∀ m, coreA call o ρ m = slotOp m back zs) ∨ ∀ m, coreA call o ρ m = some (AV.undef, m) := by
 obtain ⟨zs, hb⟩ := opv_slot (call := call) h
 by_cases hw : wantedT ρ o.guard = true
 ·exact .inl ⟨zs, fun m => by simp only [coreA, if_pos hw, hb]⟩
 ·exact .inr fun m => by simp [coreA, if_neg hw]
theorem core_slots {call : CallF} {x y : AOper} {b1 b2 : Nat} (hx : classOf x.op = .slot b1) (hy : classOf y.op = .slot b2) {ρ : Nat → AV} {m m1 m2 : Sig} {u v : AV} (h1 : coreA call x ρ m = some (v, m1)) (h2 : coreA call y ρ m1 = some (u, m2)) :
  ∃ m1', coreA call y ρ m = some (u, m1') ∧ coreA call x ρ m1' = some (v, m2) := by
 rcases core_slot (call := call) hx ρ with ⟨z1, e1⟩ | e1
 ·rcases core_slot (call := call) hy ρ with ⟨z2, e2⟩ | e2
  ·rw [e1] at h1
   rw [e2] at h2
   obtain ⟨m1', c1, c2⟩ := slot_swap h1 h2
   exact ⟨m1', (e2 m).trans c1, (e1 m1').trans c2⟩
  ·rw [e2] at h2
   injection h2 with h2
   injection h2 with h3 h4
   subst h3 h4
   exact ⟨m, e2 m, h1⟩
 ·rw [e1] at h1
  injection h1 with h1
  injection h1 with h3 h4
  subst h3 h4
  exact ⟨m2, h2, e1 m2⟩
def Writes (back : Nat) (m m' : Sig) : Prop := m' = m ∨ ∃ cs, m' = m.setBox m.cur (m.nbox m.cur - back) cs
theorem core_slot_w {call : CallF} {o : AOper} {back : Nat} (h : classOf o.op = .slot back) {ρ : Nat → AV} {m m' : Sig} {x : AV} (ho : coreA call o ρ m = some (x, m')) : Writes back m m' := by
 rcases core_slot (call := call) h ρ with ⟨zs, e⟩ | e
 ·rw [e] at ho
  exact .inr ⟨_, (slotOp_spec ho).2.2.2⟩
 ·rw [e] at ho
  injection ho with ho
  injection ho with _ ho
  exact .inl ho.symm
theorem core_fill_w {call : CallF} {o : AOper} {back : Nat} (h : classOf o.op = .fill back) {ρ : Nat → AV} {m m' : Sig} {x : AV} (ho : coreA call o ρ m = some (x, m')) : Writes back m m' := by
 unfold coreA at ho
 split at ho
 ·exact .inr (opv_fill h ho)
 ·injection ho with ho
  injection ho with _ ho
  exact .inl ho.symm
theorem core_loadr {call : CallF} {o : AOper} {res back : Nat} (h : classOf o.op = .loadr res) (hb : back ≤ res) (ρ : Nat → AV) {m m' : Sig} (hw : Writes back m m') : ∃ r : Option AV, coreA call o ρ m = r.map (·, m) ∧ coreA call o ρ m' = r.map (·, m') := by
 rcases hw with rfl | ⟨cs, rfl⟩
 ·by_cases hw : wantedT ρ o.guard = true
  ·obtain ⟨r, h1, _⟩ := opv_loadr (call := call) h (Nat.zero_le _) (ρ := evalT ρ) (m := m') []
   exact ⟨r, by simp only [coreA, if_pos hw, h1], by simp only [coreA, if_pos hw, h1]⟩
  ·exact ⟨some AV.undef, by simp only [coreA, if_neg hw]; rfl, by simp only [coreA, if_neg hw]; rfl⟩
 ·by_cases hw : wantedT ρ o.guard = true
  ·obtain ⟨r, h1, h2⟩ := opv_loadr (call := call) h hb (ρ := evalT ρ) (m := m) cs
   exact ⟨r, by simp only [coreA, if_pos hw, h1], by simp only [coreA, if_pos hw, h2]⟩
  ·exact ⟨some AV.undef, by simp only [coreA, if_neg hw]; rfl, by simp only [coreA, if_neg hw]; rfl⟩
theorem core_lw {call : CallF} {x y : AOper} {res back : Nat} (hx : classOf x.op = .loadr res) (hb : back ≤ res) {ρ : Nat → AV} {m m1 m2 : Sig} {u v : AV} (hw : Writes back m1 m2) (h1 : coreA call x ρ m = some (v, m1)) (h2 : coreA call y ρ m1 = some (u, m2)) :
  ∃ m1', coreA call y ρ m = some (u, m1') ∧ coreA call x ρ m1' = some (v, m2) := by
 obtain ⟨r0, a1, _⟩ := core_loadr (call := call) hx hb ρ (m := m) (m' := m) (.inl rfl)
 rw [a1] at h1
 obtain ⟨q1, q2⟩ := map_pair h1
 simp only at q1 q2
 subst q2
 obtain ⟨r, c1, c2⟩ := core_loadr (call := call) hx hb ρ hw
 refine ⟨m2, h2, ?_⟩
 rw [c2]
 have e := c1.symm.trans a1
 have : r = r0 := by cases r <;> cases r0 <;> simp_all
 rw [this, q1]
 rfl
theorem core_wl {call : CallF} {x y : AOper} {res back : Nat} (hy : classOf y.op = .loadr res) (hb : back ≤ res) {ρ : Nat → AV} {m m1 m2 : Sig} {u v : AV} (hw : Writes back m m1) (h1 : coreA call x ρ m = some (v, m1)) (h2 : coreA call y ρ m1 = some (u, m2)) :
  ∃ m1', coreA call y ρ m = some (u, m1') ∧ coreA call x ρ m1' = some (v, m2) := by
 obtain ⟨r, c1, c2⟩ := core_loadr (call := call) hy hb ρ hw
 rw [c2] at h2
 obtain ⟨q1, q2⟩ := map_pair h2
 simp only at q1 q2
 subst q2
 exact ⟨m, by rw [c1, q1]; rfl, h1⟩
theorem core_load_grows {call : CallF} {o : AOper} (h : classOf o.op = .load) {ρ : Nat → AV} {m m1 : Sig} {v : AV} (ho : coreA call o ρ m = some (v, m1)) : m1 = m ∧ ∀ m', Grows m m' → coreA call o ρ m' = some (v, m') := by
 unfold coreA at ho ⊢
 split at ho
 ·rename_i hw
  obtain ⟨h1, h2⟩ := opv_load_grows h ho
  exact ⟨h1, fun m' hg => by rw [if_pos hw]; exact h2 m' hg⟩
 ·rename_i hw
  injection ho with ho
  injection ho with h1 h2
  subst h1 h2
  exact ⟨rfl, fun m' _ => by rw [if_neg hw]⟩
theorem core_swap {call : CallF} {x y : AOper} (h : mayPass (classOf x.op) (classOf y.op) = true) {ρ : Nat → AV} {m m1 m2 : Sig} {u v : AV} (h1 : coreA call x ρ m = some (v, m1)) (h2 : coreA call y ρ m1 = some (u, m2)) :
  ∃ m1', coreA call y ρ m = some (u, m1') ∧ coreA call x ρ m1' = some (v, m2) := by
 have xp : classOf x.op = .pure → ∃ m1', coreA call y ρ m = some (u, m1') ∧ coreA call x ρ m1' = some (v, m2) := fun hx => by
  obtain ⟨r, hr⟩ := core_pure (call := call) hx ρ
  rw [hr] at h1
  obtain ⟨q1, q2⟩ := map_pair h1
  simp only at q1 q2
  subst q2
  exact ⟨m2, h2, by rw [hr, q1]; rfl⟩
 have yp : classOf y.op = .pure → ∃ m1', coreA call y ρ m = some (u, m1') ∧ coreA call x ρ m1' = some (v, m2) := fun hy => by
  obtain ⟨r, hr⟩ := core_pure (call := call) hy ρ
  rw [hr] at h2
  obtain ⟨q1, q2⟩ := map_pair h2
  simp only at q1 q2
  subst q2
  exact ⟨m, by rw [hr, q1]; rfl, h1⟩
 have ly : classOf y.op = .load → SameBoxes m m1 → ∃ m1', coreA call y ρ m = some (u, m1') ∧ coreA call x ρ m1' = some (v, m2) := fun hy hs => by
  obtain ⟨r, r1, r2⟩ := core_load (call := call) hy ρ hs
  rw [r2] at h2
  obtain ⟨q1, q2⟩ := map_pair h2
  simp only at q1 q2
  subst q2
  exact ⟨m, by rw [r1, q1]; rfl, h1⟩
 have lx : classOf x.op = .load → m1 = m ∧ (SameBoxes m m2 → ∃ m1', coreA call y ρ m = some (u, m1') ∧ coreA call x ρ m1' = some (v, m2)) := fun hx => by
  obtain ⟨r, r1, _⟩ := core_load (call := call) (m' := m) hx ρ (fun _ _ => rfl)
  rw [r1] at h1
  obtain ⟨q1, q2⟩ := map_pair h1
  simp only at q1 q2
  subst q2
  refine ⟨rfl, fun hs => ?_⟩
  obtain ⟨r', r1', r2'⟩ := core_load (call := call) hx ρ hs
  refine ⟨m2, h2, ?_⟩
  rw [r2']
  rw [r1'] at r1
  have : r' = r := by
   cases r <;> cases r' <;> simp_all
  rw [this, q1]
  rfl
 cases hx : classOf x.op <;> cases hy : classOf y.op <;> rw [hx, hy] at h <;> first
  | exact xp hx
  | exact yp hy
  | (simp [mayPass] at h; done)
  | skip
 ·exact ly hy (by rw [(lx hx).1]; exact fun _ _ => rfl)
 ·have := lx hx
  obtain ⟨rfl, f⟩ := this
  exact f (core_soft hy h2)
 ·obtain ⟨rfl, f⟩ := core_load_grows hx h1
  exact ⟨m2, h2, f _ (core_fresh hy h2)⟩
 ·exact ly hy (core_soft hx h1)
 ·exact core_slots hx hy h1 h2
 ·exact core_wl hy (by simpa [mayPass] using h) (core_slot_w hx h1) h1 h2
 ·exact core_lw hx (by simpa [mayPass] using h) (core_slot_w hy h2) h1 h2
 ·exact core_wl hy (Nat.zero_le _) (by
   obtain ⟨r, a1, _⟩ := core_loadr (call := call) hx (Nat.zero_le _) ρ (m := m) (m' := m) (.inl rfl)
   rw [a1] at h1
   obtain ⟨_, q2⟩ := map_pair h1
   exact .inl (by first | exact q2 | exact q2.symm)) h1 h2
 ·exact core_lw hx (by simpa [mayPass] using h) (core_fill_w hy h2) h1 h2
 ·exact core_wl hy (by simpa [mayPass] using h) (core_fill_w hx h1) h1 h2
theorem step_swap {call : CallF} {x y : AOper} (h : mayPass (classOf x.op) (classOf y.op) = true) (hd : ∀ t, x.dst = some t → y.dst ≠ some t) (hx : ∀ t, x.dst = some t → t ∉ readsOf y) (hy : ∀ t, y.dst = some t → t ∉ readsOf x)
  {st st1 st2 : St} (h1 : stepA call x st = some st1) (h2 : stepA call y st1 = some st2) : ∃ st1', stepA call y st = some st1' ∧ stepA call x st1' = some st2 := by
 rw [stepA_core] at h1
 obtain ⟨⟨v, m1⟩, c1, h1⟩ := Option.map_eq_some_iff.1 h1
 subst h1
 rw [stepA_core] at h2
 obtain ⟨⟨u, m2⟩, c2, h2⟩ := Option.map_eq_some_iff.1 h2
 subst h2
 simp only at c2
 have put_agree : ∀ (o o' : AOper) (ρ : Nat → AV) (z : AV), (∀ t, o.dst = some t → t ∉ readsOf o') → agreeOn (readsOf o') (putT ρ o.dst z) ρ := fun o o' ρ z ho t ht => by
  cases hdo : o.dst with
  | none => rfl
  | some d =>
   simp only [putT, put]
   rw [if_neg (fun e => ho d hdo (by rw [← e]; exact ht))]
 rw [coreA_agree (put_agree x y st.tmps v hx)] at c2
 obtain ⟨m1', c3, c4⟩ := core_swap h c1 c2
 refine ⟨⟨putT st.tmps y.dst u, m1'⟩, by rw [stepA_core, c3]; rfl, ?_⟩
 rw [stepA_core]
 simp only
 rw [coreA_agree (put_agree y x st.tmps u hy), c4]
 simp only [Option.map_some, Option.some.injEq, St.mk.injEq, and_true]
 cases hdx : x.dst with
 | none => rfl
 | some d =>
  cases hdy : y.dst with
  | none => rfl
  | some d' =>
   have hne : d' ≠ d := fun e => hd d hdx (by rw [hdy, e])
   funext t
   simp only [putT, put]
   by_cases h1 : t = d
   ·subst h1
    rw [if_pos rfl, if_neg (Ne.symm hne), if_pos rfl]
   ·rw [if_neg h1]
    split <;> rfl
def runIx (call : CallF) (as : List AOper) : List Nat → St → Option St
 | [], st => some st
 | i :: r, st => match as[i]? with
  | some o => (stepA call o st).bind (runIx call as r)
  | none => none
theorem runIx_range' (call : CallF) (as : List AOper) : ∀ (l : List AOper) (i : Nat), (∀ j, l[j]? = as[i + j]?) → ∀ st, runIx call as (List.range' i l.length) st = ops call l st
 | [], i, _, st => rfl
 | o :: r, i, h, st => by
  have h0 : as[i]? = some o := by simpa using (h 0).symm
  simp only [List.length_cons, List.range'_succ, runIx, h0, ops_cons]
  congr 1
  funext st1
  exact runIx_range' call as r (i + 1) (fun j => by have := h (j + 1); simpa [Nat.add_assoc, Nat.add_comm 1 j] using this) st1
theorem runIx_range (call : CallF) (as : List AOper) (st : St) : runIx call as (List.range as.length) st = ops call as st := by
 rw [List.range_eq_range']
 exact runIx_range' call as as 0 (by simp) st
def unordered (pre : List Nat) (i j : Nat) : Prop := before pre i j = false ∧ before pre j i = false
theorem drawOk_spec {pre : List Nat} {l : List AOper} (h : drawOk pre l = true) {i j : Nat} {x y : AOper} (hx : l[i]? = some x) (hy : l[j]? = some y) (hlt : i < j) (hu : unordered pre i j) :
  mayPass (classOf x.op) (classOf y.op) = true ∧ (∀ t, x.dst = some t → y.dst ≠ some t) ∧ (∀ t, y.dst = some t → t ∉ readsOf x) ∧ (∀ t, x.dst = some t → t ∉ readsOf y) := by
 have hne : i ≠ j := by omega
 unfold drawOk at h
 rw [Bool.and_eq_true] at h
 have h1 := h.1
 unfold pairsOk at h1
 have mem : ∀ {i : Nat} {x : AOper}, l[i]? = some x → (x, i) ∈ l.zipIdx := fun e => by
  rw [List.mem_zipIdx_iff_getElem?]
  exact e
 have h2 := List.all_eq_true.1 h1 _ (mem hx)
 have h3 := List.all_eq_true.1 h2 _ (mem hy)
 have h4 := List.all_eq_true.1 (List.all_eq_true.1 h1 _ (mem hy)) _ (mem hx)
 have hne' : (i == j) = false := by simpa using hne
 have hne'' : (j == i) = false := by simpa using Ne.symm hne
 have hji : decide (j < i) = false := by simp; omega
 obtain ⟨hu1, hu2⟩ := hu
 simp only [hne', Bool.false_or, Bool.and_eq_true, hu1, hu2, Bool.or_false] at h3
 simp only [hne'', Bool.false_or, Bool.and_eq_true, hu1, hu2, Bool.or_false] at h4
 obtain ⟨⟨a1, a2⟩, a3⟩ := h3
 obtain ⟨⟨_, a4⟩, _⟩ := h4
 refine ⟨?_, fun t ht e => ?_, fun t ht hm => ?_, fun t ht hm => ?_⟩
 ·cases hcx : classOf x.op <;> cases hcy : classOf y.op <;> rw [hcx, hcy] at a3 <;> first | rfl | (simp [hji] at a3; done) | (simpa [mayPass] using a3)
 ·rw [ht, e] at a1
  simp at a1
 ·rw [ht] at a2
  simp at a2
  exact a2 hm
 ·rw [ht] at a4
  simp at a4
  exact a4 hm
theorem unordered.symm {pre : List Nat} {i j : Nat} (h : unordered pre i j) : unordered pre j i := ⟨h.2, h.1⟩
theorem toFront {call : CallF} {pre : List Nat} {as : List AOper} (h : drawOk pre as = true) {i : Nat} {q : List Nat} {f : St} : ∀ (p : List Nat) (st : St), (∀ j, j ∈ p → j < i ∧ unordered pre i j) → runIx call as (p ++ i :: q) st = some f →
  runIx call as (i :: (p ++ q)) st = some f
 | [], st, _, hr => hr
 | j :: p, st, hp, hr => by
  simp only [List.cons_append, runIx] at hr
  split at hr
  ·rename_i y hy
   obtain ⟨st1, s1, hr⟩ := Option.bind_eq_some_iff.1 hr
   have hr' := toFront h p st1 (fun j' hj' => hp j' (by simp [hj'])) hr
   simp only [runIx] at hr'
   split at hr'
   ·rename_i x hx
    obtain ⟨st2, s2, hr'⟩ := Option.bind_eq_some_iff.1 hr'
    obtain ⟨hlt, hu⟩ := hp j (by simp)
    obtain ⟨d1, d2, d3, d6⟩ := drawOk_spec h hy hx hlt hu.symm
    obtain ⟨st1', t1, t2⟩ := step_swap d1 d2 d6 d3 s1 s2
    simp only [runIx, List.cons_append, hx, hy, t1, Option.bind_some, t2]
    exact hr'
   ·cases hr'
  ·cases hr
def bindsOf (o : Oper) : List Edge := o.after.toList.filter (Region.binds .any)
theorem foldl_bits {acc : List Nat} {i : Nat} : ∀ (es : List Edge) (m : Nat), (es.foldl (fun m e => m ||| 1 <<< e.on ||| acc.getD e.on 0) m).testBit i = true → m.testBit i = true ∨ ∃ e, e ∈ es ∧ (e.on = i ∨ (acc.getD e.on 0).testBit i = true)
 | [], m, h => .inl h
 | e :: r, m, h => by
  simp only [List.foldl_cons] at h
  rcases foldl_bits r _ h with h | ⟨e', h1, h2⟩
  ·rw [Nat.testBit_or, Nat.testBit_or, Bool.or_eq_true, Bool.or_eq_true] at h
   rcases h with (h | h) | h
   ·exact .inl h
   ·rw [Nat.testBit_shiftLeft] at h
    simp only [Bool.and_eq_true, decide_eq_true_eq] at h
    have := h.2
    have h0 : i - e.on = 0 := by
     cases hq : i - e.on with
     | zero => rfl
     | succ n =>
      rw [hq, Nat.testBit_succ] at this
      simp at this
    exact .inr ⟨e, by simp, .inl (by omega)⟩
   ·exact .inr ⟨e, by simp, .inr h⟩
  ·exact .inr ⟨e', by simp [h1], h2⟩
theorem preds_spec : ∀ (l : List Oper) (acc pre : List Nat), predsFrom acc l = some pre → (∀ j, j < acc.length → pre.getD j 0 = acc.getD j 0) ∧ pre.length = acc.length + l.length ∧
  ∀ j o, l[j]? = some o → (∀ e, e ∈ bindsOf o → e.on < acc.length + j) ∧ ∀ i, (pre.getD (acc.length + j) 0).testBit i = true → ∃ e, e ∈ bindsOf o ∧ (e.on = i ∨ (pre.getD e.on 0).testBit i = true)
 | [], acc, pre, h => by
  simp only [predsFrom] at h
  injection h with h
  subst h
  exact ⟨fun _ _ => rfl, rfl, fun j o hj => by simp at hj⟩
 | o :: r, acc, pre, h => by
  simp only [predsFrom] at h
  split at h
  ·rename_i hall
   obtain ⟨h1, h2, h3⟩ := preds_spec r _ pre h
   simp only [List.length_append, List.length_cons, List.length_nil] at h1 h2 h3
   have hall' : ∀ e, e ∈ bindsOf o → e.on < acc.length := fun e he => by simpa using List.all_eq_true.1 hall e he
   refine ⟨fun j hj => ?_, by simp only [List.length_cons]; omega, fun j o' hj => ?_⟩
   ·rw [h1 j (by omega)]
    simp [List.getD_eq_getElem?_getD, List.getElem?_append_left hj]
   ·cases j with
    | zero =>
     simp only [List.getElem?_cons_zero, Option.some.injEq] at hj
     subst hj
     refine ⟨fun e he => by have := hall' e he; omega, fun i hi => ?_⟩
     rw [Nat.add_zero, h1 acc.length (by omega)] at hi
     have hv : (acc ++ [(bindsOf o).foldl (fun m e => m ||| 1 <<< e.on ||| acc.getD e.on 0) 0]).getD acc.length 0 = (bindsOf o).foldl (fun m e => m ||| 1 <<< e.on ||| acc.getD e.on 0) 0 := by
      simp [List.getD_eq_getElem?_getD]
     have hi' : ((bindsOf o).foldl (fun m e => m ||| 1 <<< e.on ||| acc.getD e.on 0) 0).testBit i = true := by
      rw [← hv]
      exact hi
     rcases foldl_bits _ _ hi' with h0 | ⟨e, e1, e2⟩
     ·simp at h0
     ·refine ⟨e, e1, e2.imp id fun e3 => ?_⟩
      rw [h1 e.on (by have := hall' e e1; omega)]
      have : (acc ++ [(bindsOf o).foldl (fun m e => m ||| 1 <<< e.on ||| acc.getD e.on 0) 0]).getD e.on 0 = acc.getD e.on 0 := by
       simp [List.getD_eq_getElem?_getD, List.getElem?_append_left (hall' e e1)]
      exact (congrArg (fun q => Nat.testBit q i) this).trans e3
    | succ j =>
     simp only [List.getElem?_cons_succ] at hj
     obtain ⟨g1, g2⟩ := h3 j o' hj
     refine ⟨fun e he => by have := g1 e he; omega, fun i hi => g2 i ?_⟩
     have : acc.length + 1 + j = acc.length + (j + 1) := by omega
     rw [this]
     exact hi
  ·cases h
structure PreOk (l : List Oper) (pre : List Nat) : Prop where
 len : pre.length = l.length
 edge : ∀ j o, l[j]? = some o → ∀ e, e ∈ bindsOf o → e.on < j
 why : ∀ j o, l[j]? = some o → ∀ i, before pre i j = true → ∃ e, e ∈ bindsOf o ∧ (e.on = i ∨ before pre i e.on = true)
theorem preOk_of {l : List Oper} {pre : List Nat} (h : predsFrom [] l = some pre) : PreOk l pre := by
 obtain ⟨_, h2, h3⟩ := preds_spec l [] pre h
 simp only [List.length_nil, Nat.zero_add] at h2 h3
 exact ⟨h2, fun j o hj => (h3 j o hj).1, fun j o hj i hi => (h3 j o hj).2 i hi⟩
theorem PreOk.lt {l : List Oper} {pre : List Nat} (h : PreOk l pre) : ∀ (j i : Nat), before pre i j = true → i < j := by
 intro j
 induction j using Nat.strongRecOn with
 | _ j ih =>
  intro i hi
  by_cases hj : j < l.length
  ·obtain ⟨e, e1, e2⟩ := h.why j _ (List.getElem?_eq_getElem hj) i hi
   have := h.edge j _ (List.getElem?_eq_getElem hj) e e1
   rcases e2 with e2 | e2
   ·omega
   ·have := ih e.on this i e2
    omega
  ·have : pre.getD j 0 = 0 := by
    rw [List.getD_eq_getElem?_getD, List.getElem?_eq_none (by rw [h.len]; omega)]
    rfl
   simp only [before, this, Nat.zero_testBit] at hi
   cases hi
def remIx (n : Nat) (listed : Array Bool) : List Nat := (List.range n).filter fun j => !listed.getD j true
theorem mem_remIx {n j : Nat} {listed : Array Bool} : j ∈ remIx n listed ↔ j < n ∧ listed.getD j true = false := by
 simp [remIx, List.mem_filter]
theorem remIx_split {n i : Nat} {listed : Array Bool} (hi : i ∈ remIx n listed) : ∃ p q, remIx n listed = p ++ i :: q ∧ remIx n (listed.setIfInBounds i true) = p ++ q ∧ ∀ j, j ∈ p → j < i ∧ listed.getD j true = false := by
 obtain ⟨h1, h2⟩ := mem_remIx.1 hi
 refine ⟨(List.range i).filter fun j => !listed.getD j true, (List.range' (i + 1) (n - (i + 1))).filter fun j => !listed.getD j true, ?_, ?_, fun j hj => ?_⟩
 ·have hr : List.range n = List.range i ++ i :: List.range' (i + 1) (n - (i + 1)) := by
   rw [List.range_eq_range', List.range_eq_range', show n = i + (n - (i + 1) + 1) by omega, ← List.range'_append_1]
   simp [List.range'_succ]
   omega
  rw [remIx, hr, List.filter_append, List.filter_cons]
  simp [h2]
 ·have hr : List.range n = List.range i ++ i :: List.range' (i + 1) (n - (i + 1)) := by
   rw [List.range_eq_range', List.range_eq_range', show n = i + (n - (i + 1) + 1) by omega, ← List.range'_append_1]
   simp [List.range'_succ]
   omega
  have hs : (listed.setIfInBounds i true).getD i true = true := by
   by_cases hlt : i < listed.size
   ·simp [Array.getD, hlt]
   ·simp [Array.getD, hlt]
  rw [remIx, hr, List.filter_append, List.filter_cons]
  simp only [hs, Bool.not_true, Bool.false_eq_true, if_false]
  congr 1
  ·refine List.filter_congr fun j hj => ?_
   rw [getD_set_ne true (by have := List.mem_range.1 hj; omega)]
  ·refine List.filter_congr fun j hj => ?_
   rw [getD_set_ne true (by have := List.mem_range'_1.1 hj; omega)]
 ·rw [List.mem_filter, List.mem_range] at hj
  exact ⟨hj.1, by simpa using hj.2⟩
theorem compOpers_get {all : List Oper} {md : Nat → Md} : ∀ (l : List Oper) (i : Nat) (al : List AOper), compOpers P all md i l = some al → al.length = l.length ∧ ∀ j o, l[j]? = some o → ∃ ao, al[j]? = some ao ∧ ao.dst = o.dst ∧ compGuard all o.guard = some ao.guard ∧ compOp P (md (i + j)) o.op = some ao.op
 | [], i, al, h => by
  simp only [compOpers] at h
  injection h with h
  subst h
  exact ⟨rfl, fun j o hj => by simp at hj⟩
 | o :: r, i, al, h => by
  simp only [compOpers] at h
  split at h
  ·rename_i g op rest e1 e2 e3
   injection h with h
   subst h
   obtain ⟨h1, h2⟩ := compOpers_get r (i + 1) rest e3
   refine ⟨by simp [h1], fun j o' hj => ?_⟩
   cases j with
   | zero =>
    simp only [List.getElem?_cons_zero, Option.some.injEq] at hj
    subst hj
    exact ⟨_, rfl, rfl, e1, e2⟩
   | succ j =>
    obtain ⟨ao, a1, a2, a3, a4⟩ := h2 j o' (by simpa using hj)
    exact ⟨ao, by simpa using a1, a2, a3, by rw [← a4]; congr 2; omega⟩
  ·cases h
theorem drawn_sound {call : CallF} (hcall : CallSound P B0 w0 call) (hro : RoOk call) {rd : Option Nat} {n : Nat} {all : Array Oper} {md : Nat → Md} {as : List AOper} {pre : List Nat} (hc : compOpers P all.toList md 0 all.toList = some as)
  (hpre : PreOk all.toList pre) (hok : drawOk pre as = true) {f : St} {Q : Exit → Act → World → Prop} : ∀ (fuel : Nat) (listed : Array Bool) (G : Ghost) (st : St) (a : Act) (w : World),
  listed.size = all.size → (remIx all.size listed).length ≤ fuel → (∀ i j, listed.getD j false = true → before pre i j = true → listed.getD i false = true) → runIx call as (remIx all.size listed) st = some f →
  At P B0 w0 G k nl st.sig w → TmpsRel G k nl st.tmps a → (∀ o, o ∈ as → ∀ t, o.dst = some t → t < a.tmps.size) → (∀ a' w', PostTo P B0 w0 G k nl st.sig a f a' w' → Q .normal a' w') →
  wpAnyIn (fenceOf rd) n P .any all Q fuel listed a w := by
 have hnone : ∀ (listed : Array Bool), listed.size = all.size → Region.ready .any all listed = [] → remIx all.size listed = [] := fun listed hsz hr => by
  have key : ∀ j, j < all.size → listed.getD j true = true := fun j => by
   induction j using Nat.strongRecOn with
   | _ j ih =>
    intro hj
    cases hl : listed.getD j true with
    | true => rfl
    | false =>
     exfalso
     have : j ∈ Region.ready .any all listed := by
      rw [mem_ready]
      refine ⟨hl, all[j], Array.getElem?_eq_getElem hj, fun e he hb => ?_⟩
      have hlt := hpre.edge j all[j] (by simp [hj]) e (by simp [bindsOf, List.mem_filter]; exact ⟨he, hb⟩)
      have := ih e.on hlt (by omega)
      have hlt2 : e.on < listed.size := by omega
      simpa [Array.getD, hlt2] using this
     rw [hr] at this
     cases this
  rw [remIx, List.filter_eq_nil_iff]
  intro j hj
  rw [key j (List.mem_range.1 hj)]
  simp
 have done : ∀ (listed : Array Bool) (G : Ghost) (st : St) (a : Act) (w : World), listed.size = all.size → Region.ready .any all listed = [] → runIx call as (remIx all.size listed) st = some f → At P B0 w0 G k nl st.sig w → TmpsRel G k nl st.tmps a →
   (∀ a' w', PostTo P B0 w0 G k nl st.sig a f a' w' → Q .normal a' w') → Q .normal a w := fun listed G st a w hsz hr hrun h hR hQ => by
  rw [hnone listed hsz hr] at hrun
  simp only [runIx] at hrun
  injection hrun with hrun
  subst hrun
  exact hQ a w ⟨G, h, .refl _ _ _, rfl, hR, rfl, rfl⟩
 intro fuel
 induction fuel with
 | zero =>
  intro listed G st a w hsz hlen hcl hrun h hR hd hQ
  have hr0 : Region.ready .any all listed = [] := by
   cases hr : Region.ready .any all listed with
   | nil => rfl
   | cons i r =>
    exfalso
    have hi : i ∈ Region.ready .any all listed := by rw [hr]; simp
    obtain ⟨h1, o, h2, _⟩ := mem_ready.1 hi
    have : i ∈ remIx all.size listed := mem_remIx.2 ⟨(Array.getElem?_eq_some_iff.1 h2).1, h1⟩
    have h0 : remIx all.size listed = [] := List.eq_nil_of_length_eq_zero (by omega)
    rw [h0] at this
    cases this
  exact ⟨hr0, done listed G st a w hsz hr0 hrun h hR hQ⟩
 | succ fuel ih =>
  intro listed G st a w hsz hlen hcl hrun h hR hd hQ
  refine ⟨fun hr => done listed G st a w hsz hr hrun h hR hQ, fun i hi => ?_⟩
  obtain ⟨h1, o, h2, hafter⟩ := mem_ready.1 hi
  have hlt : i < all.size := (Array.getElem?_eq_some_iff.1 h2).1
  have hmem : i ∈ remIx all.size listed := mem_remIx.2 ⟨hlt, h1⟩
  obtain ⟨p, q, e1, e2, e3⟩ := remIx_split hmem
  have ho : all.toList[i]? = some o := by simpa using h2
  have hahead : ∀ j, before pre j i = true → listed.getD j false = true := fun j hj => by
   obtain ⟨e, c1, c2⟩ := hpre.why i o ho j hj
   have he : e ∈ o.after ∧ Region.binds .any e = true := by
    simp only [bindsOf, List.mem_filter] at c1
    exact ⟨by simpa using c1.1, c1.2⟩
   have hl := hafter e he.1 he.2
   rcases c2 with c2 | c2
   ·rw [← c2]; exact hl
   ·exact hcl j e.on hl c2
  have hfront : runIx call as (i :: (p ++ q)) st = some f := by
   refine toFront hok p st (fun j hj => ?_) (by rw [← e1]; exact hrun)
   obtain ⟨j1, j2⟩ := e3 j hj
   refine ⟨by omega, ?_, ?_⟩
   ·cases hb : before pre i j with
    | false => rfl
    | true => have := hpre.lt j i hb; omega
   ·cases hb : before pre j i with
    | false => rfl
    | true =>
     exfalso
     have := hahead j hb
     have hjs : j < listed.size := by omega
     simp [Array.getD, hjs] at this j2
     rw [this] at j2
     cases j2
  obtain ⟨g1, g2⟩ := compOpers_get _ 0 as hc
  obtain ⟨ao, a1, a2, a3, a4⟩ := g2 i o ho
  simp only [runIx, a1] at hfront
  obtain ⟨st1, s1, s2⟩ := Option.bind_eq_some_iff.1 hfront
  unfold wpOpIn
  simp only [h2]
  have hall : all = all.toList.toArray := by simp
  have hstep := op_step hcall hro (rd := rd) (n := n) (all := all.toList) (Q := Q) h hR a3 a4 a2 (fun t ht => hd ao (List.mem_of_getElem? a1) t ht) s1 (K := wpAnyIn (fenceOf rd) n P .any all Q fuel (listed.setIfInBounds i true)) (fun a1' w1 hp => by
   obtain ⟨G1, k1, k2, k3, k4, k5, k6⟩ := hp
   refine ih (listed.setIfInBounds i true) G1 st1 a1' w1 (by simp [hsz]) ?_ ?_ (by rw [e2]; exact s2) k1 k4 (fun o' ho' t ht => by rw [k5]; exact hd o' ho' t ht) (fun a' w' hp' => hQ a' w' ?_)
   ·rw [e2]
    rw [e1] at hlen
    simp at hlen ⊢
    omega
   ·intro x y hy hxy
    by_cases hyi : y = i
    ·subst hyi
     exact getD_set_true (hahead x hxy)
    ·rw [getD_set_ne false (Ne.symm hyi)] at hy
     exact getD_set_true (hcl x y hy hxy)
   ·obtain ⟨G2, q1, q2, q3, q4, q5, q6⟩ := hp'
    rw [k3] at q2 q3
    exact ⟨G2, q1, k2.trans q2, q3, q4, q5.trans k5, q6.trans k6⟩)
  simpa using hstep
theorem region_drawn {call : CallF} (hcall : CallSound P B0 w0 call) (hro : RoOk call) (hm : P.follows .mixedOrders = true) {rd : Option Nat} {n id : Nat} {all : Array Oper} {md : Nat → Md} {as : List AOper} {pre : List Nat} {st st' : St} {a : Act}
  (hpre : predsFrom [] all.toList = some pre) (hco : compOpers P all.toList md 0 all.toList = some as) (hok : drawOk pre as = true) (h : At P B0 w0 G k nl st.sig w) (hR : TmpsRel G k nl st.tmps a) (hd : ∀ o, o ∈ as → ∀ t, o.dst = some t → t < a.tmps.size) (hs : ops call as st = some st')
  {Q : Exit → Act → World → Prop} (hQ : ∀ a' w', PostTo P B0 w0 G k nl st.sig a st' a' w' → Q .normal a' w') : (Code.region id all true).wpIn (fenceOf rd) n P Q a w := by
 have hlen := (compOpers_get _ 0 _ hco).1
 refine wpIn_region_any hm ?_
 have hat : At P B0 w0 G k nl st.sig w.drew := ⟨h.rel.drew, h.len, h.cur⟩
 have hrem : remIx all.size (Array.replicate all.size false) = List.range as.length := by
  rw [hlen]
  simp only [Array.length_toList, remIx]
  rw [List.filter_eq_self]
  intro j hj
  have := List.mem_range.1 hj
  simp [Array.getD, this]
 have hrun : runIx call as (remIx all.size (Array.replicate all.size false)) st = some st' := by
  rw [hrem, runIx_range]
  exact hs
 refine drawn_sound hcall hro hco (preOk_of hpre) hok all.size _ G st a _ (by simp) ?_ ?_ hrun hat hR hd hQ
 ·rw [hrem, hlen]; simp
 ·intro i j hj
  by_cases hlt : j < all.size
  ·simp [Array.getD, hlt] at hj
  ·simp [Array.getD, hlt] at hj
theorem region_sound {call : CallF} (hcall : CallSound P B0 w0 call) (hro : RoOk call) (hm : P.follows .mixedOrders = true) {rd : Option Nat} {n id : Nat} {all : Array Oper} {drawn : Bool} {as : List AOper} {n0 : Nat} {st st' : St} {a : Act}
  {mu : Bool} (hc : compRegion P mu all.toList drawn = some (n0, as)) (h : At P B0 w0 G k nl st.sig w) (hR : TmpsRel G k nl st.tmps a) (hd : ∀ o, o ∈ as → ∀ t, o.dst = some t → t < a.tmps.size) (hs : ops call as st = some st')
  {Q : Exit → Act → World → Prop} (hQ : ∀ a' w', PostTo P B0 w0 G k nl st.sig a st' a' w' → Q .normal a' w') : (Code.region id all drawn).wpIn (fenceOf rd) n P Q a w := by
 cases drawn with
 | false =>
  simp only [compRegion, Bool.false_eq_true, if_false] at hc
  obtain ⟨as', hc', he⟩ := Option.map_eq_some_iff.1 hc
  injection he with _ he
  subst he
  refine wpIn_region_list ?_
  have := ops_sound hcall hro (rd := rd) (n := n) (Q := Q) all.toList 0 as' G st st' a w hc' h hR hd hs hQ
  simpa using this
 | true =>
  simp only [compRegion, if_true] at hc
  split at hc
  ·cases hc
  rename_i pre hpre
  split at hc
  ·rename_i as' hco
   split at hc
   ·rename_i hok
    injection hc with hc
    injection hc with _ hc
    subst hc
    exact region_drawn hcall hro hm hpre hco hok h hR hd hs hQ
   ·split at hc
    ·rename_i as2 hco2
     split at hc
     ·rename_i hok
      injection hc with hc
      injection hc with _ hc
      subst hc
      exact region_drawn hcall hro hm hpre hco2 hok h hR hd hs hQ
     ·cases hc
    ·cases hc
  ·cases hc
end
end Go.Ax
