/-
  Slices built or made, conversions, the least and the greatest.
-/
import Derived.Test.YtfmojojicndbcaaAxM
namespace Go.Ax
open Go.RowKit

section
variable {P : Program} {B0 : Nat} {w0 : World} {G : Ghost} {k nl : Nat} {w : World} {s : Sig}

theorem byte_getD {q : Array UInt8} {c : Nat} (h : c < q.size) : q.getD c 0 = q[c] := by
  unfold Array.getD
  rw [dif_pos h]
  rfl

theorem close_cell {x z : AV} (h : x.close = some z) : x.isCell = true ∧ z.isCell = true := by
  have hx : x.isCell = true := by
    unfold AV.close at h
    split at h
    · rfl
    · split at h
      · rename_i hc
        cases x with
        | v q => cases q <;> first | rfl | (simp [AV.isClosed, AV.isClosed1] at hc)
        | agg => simp [AV.isClosed, AV.isClosed1] at hc
        | tuple => simp [AV.isClosed, AV.isClosed1] at hc
        | _ => rfl
      · cases h
  exact ⟨hx, close_isCell h hx⟩

theorem setA_getD {q : Nat} : ∀ (vs : List Value) (o : Nat) (arr : Array Value), o + vs.length ≤ arr.size → (setA arr o vs).getD q Go.undef = if o ≤ q ∧ q < o + vs.length then vs.getD (q - o) Go.undef else arr.getD q Go.undef
  | [], o, arr, _ => by
    rw [if_neg (by simp)]
    rfl
  | v :: r, o, arr, h => by
    simp only [List.length_cons] at h
    simp only [setA]
    rw [setA_getD r (o + 1) _ (by simp; omega)]
    simp only [List.length_cons]
    by_cases h1 : o + 1 ≤ q ∧ q < o + 1 + r.length
    · rw [if_pos h1, if_pos (by omega)]
      have : q - o = (q - (o + 1)) + 1 := by omega
      rw [this, List.getD_cons_succ]
    · rw [if_neg h1]
      by_cases h2 : q = o
      · subst h2
        rw [if_pos (by omega), Nat.sub_self]
        have : q < arr.size := by omega
        simp [Array.getD, this]
      · rw [if_neg (by omega)]
        by_cases hq : q < arr.size
        · simp [Array.getD, hq, Ne.symm h2]
        · simp [Array.getD, hq]

/-- Elements in one row. -/
structure Rows (I : IMap) (es : Nat) (rows : List (List AV)) (arr : Array Value) : Prop where
  size : arr.size = rows.length * es
  len : ∀ r, r ∈ rows → r.length = es
  cell : ∀ r, r ∈ rows → ∀ c, c ∈ r → c.isCell = true
  rel : ∀ i (hi : i < rows.length) j (hj : j < rows[i].length), RelC I (rows[i][j]) (arr.getD (i * es + j) Go.undef)

theorem row_lt {i j n es : Nat} (hi : i < n) (hj : j < es) : i * es + j < n * es := by
  calc i * es + j < i * es + es := by omega
    _ = (i + 1) * es := by rw [Nat.add_mul, Nat.one_mul]
    _ ≤ n * es := Nat.mul_le_mul_right _ hi

theorem row_apart {i q j es : Nat} (hj : j < es) (hne : q ≠ i) : ¬ (i * es ≤ q * es + j ∧ q * es + j < i * es + es) := by
  intro ⟨h1, h2⟩
  rcases Nat.lt_or_gt_of_ne hne with h | h
  · have := row_lt (es := es) h hj
    omega
  · have : (i + 1) * es ≤ q * es := Nat.mul_le_mul_right _ h
    rw [Nat.add_mul, Nat.one_mul] at this
    omega

theorem Rows.set {I : IMap} {es : Nat} {rows : List (List AV)} {arr : Array Value} (h : Rows I es rows arr) {i : Nat} (hi : i < rows.length) {cs : List AV} {vs : Array Value} (hl : cs.length = es) (hcell : ∀ c, c ∈ cs → c.isCell = true)
    (hR : Row2 (RelC I) cs vs) : Rows I es (rows.set i cs) (setA arr (i * es) vs.toList) := by
  have hvs : vs.toList.length = es := by simp [hR.1, hl]
  have hle : i * es + es ≤ rows.length * es := by
    have : (i + 1) * es ≤ rows.length * es := Nat.mul_le_mul_right _ hi
    rwa [Nat.add_mul, Nat.one_mul] at this
  refine ⟨by rw [setA_size, List.length_set]; exact h.size, fun r hr => ?_, fun r hr => ?_, fun q hq j hj => ?_⟩
  · rcases List.mem_or_eq_of_mem_set hr with hr | rfl
    · exact h.len r hr
    · exact hl
  · rcases List.mem_or_eq_of_mem_set hr with hr | rfl
    · exact h.cell r hr
    · exact hcell
  · have hq' : q < rows.length := by simpa using hq
    rw [setA_getD _ _ _ (by rw [hvs, h.size]; exact hle), hvs]
    by_cases he : i = q
    · subst he
      simp only [List.getElem_set_self] at hj ⊢
      rw [if_pos (by omega)]
      have e1 : i * es + j - i * es = j := by omega
      rw [e1]
      have := hR.2 j hj
      have e2 : vs.toList.getD j Go.undef = vs.getD j Go.undef := by
        have : j < vs.size := by rw [hR.1]; exact hj
        simp [Array.getD, this]
      rw [e2]
      exact this
    · simp only [List.getElem_set_ne he] at hj ⊢
      have hj' : j < es := by rw [← h.len _ (List.getElem_mem hq')]; exact hj
      rw [if_neg (row_apart hj' (Ne.symm he))]
      exact h.rel q hq' j hj

theorem rows_sound {ρ : Nat → AV} {a : Act} (hR : TmpsRel G k nl ρ a) {es : Nat} : ∀ (parts : List (Nat × Operand)) (ps : List (Nat × AOpd)) (rows rows' : List (List AV)) (arr : Array Value),
    compRows parts = some ps → Rows G.I es rows arr → buildRows rows (evalT ρ) ps = some rows' →
    ∃ arr', Instr.fill (fun i => some (i * es, es)) arr (parts.map fun p => (p.1, a.eval p.2)) = some arr' ∧ Rows G.I es rows' arr' ∧ rows'.length = rows.length
  | [], ps, rows, rows', arr, hp, hrow, h => by
    simp only [compRows] at hp
    injection hp with hp
    subst hp
    simp only [buildRows] at h
    injection h with h
    subst h
    exact ⟨arr, rfl, hrow, rfl⟩
  | (i, x) :: r, ps, rows, rows', arr, hp, hrow, h => by
    simp only [compRows] at hp
    split at hp
    · rename_i y s' e2 e3
      injection hp with hp
      subst hp
      simp only [buildRows] at h
      split at h
      · rename_i row cs f1 f2
        split at h
        · rename_i hlen
          obtain ⟨hi, hrow'⟩ := List.getElem?_eq_some_iff.1 f1
          have hrl : row.length = es := hrow.len _ (hrow' ▸ List.getElem_mem hi)
          have hx := opd_rel e2 hR
          obtain ⟨c1, c2⟩ := closeAll_spec f2
          have hall : (evalT ρ y).cells.all AV.isCell = true := by
            rw [List.all_eq_true]
            intro c hc
            obtain ⟨j, hj, rfl⟩ := List.getElem_of_mem hc
            exact (close_cell (c2 j hj (by omega))).1
          have hcv := hx.cells hall
          have hrel : Row2 (RelC G.I) cs (a.eval x).cells := ⟨by rw [hcv.1, c1], fun j hj => (hcv.2 j (by omega)).close (c2 j (by omega) hj)⟩
          have hcc : ∀ c, c ∈ cs → c.isCell = true := fun c hc => by
            obtain ⟨j, hj, rfl⟩ := List.getElem_of_mem hc
            exact (close_cell (c2 j (by omega) hj)).2
          have hset := hrow.set hi (hlen.trans hrl) hcc hrel
          obtain ⟨arr', k1, k2, k3⟩ := rows_sound hR r s' _ rows' _ e3 hset h
          refine ⟨arr', ?_, k2, by rw [k3]; simp⟩
          simp only [List.map_cons, Instr.fill]
          have hsz : (a.eval x).cells.size = es := by rw [hrel.1, hlen, hrl]
          have hle : i * es + es ≤ rows.length * es := by
            have : (i + 1) * es ≤ rows.length * es := Nat.mul_le_mul_right _ hi
            rwa [Nat.add_mul, Nat.one_mul] at this
          have hs2 := hrow.size
          rw [if_neg (by simp only [Bool.or_eq_true, bne_iff_ne, decide_eq_true_eq, hsz]; omega), foldl_arr]
          exact k1
        · cases h
      · cases h
    · cases hp

/-- A row of elements that nobody writes to. -/
theorem Rows.slice {I : IMap} {es b cap : Nat} {rows : List (List AV)} {arr : Array Value} (h : Rows I es rows arr) (hI : ∀ i, i < arr.size → I b i = arr[i]?) (hcap : rows.length ≤ cap) : SliceC I es rows ⟨b, 0, none⟩ cap := by
  refine SliceC.mk (fun c => arr.getD c Go.undef) hcap h.len h.cell (fun c hc => ?_) h.rel
  rw [Nat.zero_add, hI c (by rw [h.size]; exact hc)]
  have : c < arr.size := by rw [h.size]; exact hc
  simp [Array.getD, this]

theorem Rows.mono {I I' : IMap} {es : Nat} {rows : List (List AV)} {arr : Array Value} (h : Rows I es rows arr) (hI : ∀ b i v, I b i = some v → I' b i = some v) : Rows I' es rows arr :=
  ⟨h.size, h.len, h.cell, fun i hi j hj => (h.rel i hi j hj).mono hI⟩

theorem newI (h : At P B0 w0 G k nl s w) {es n : Nat} {rows : List (List AV)} {arr : Array Value} (ty : TypeId) (hr : Rows G.I es rows arr) (hn : rows.length = n) :
    StepTo P B0 w0 G k nl s s (w.alloc (.cells arr ty)) (.slice .full es rows) (.slice (some ⟨w.heap.size, 0, none⟩) n n) := by
  subst hn
  have hle := G.addI_le w.heap.size arr h.rel.I_new (k + 1) s.loops.length
  have hs := h.rel.allocI arr ty (0, 0)
  refine ⟨_, h.to hs (hle.less (by omega) h.nle) rfl, hle, rfl, .cl (toFull rfl ?_)⟩
  refine (hr.mono hle.I).slice (fun i hi => ?_) (Nat.le_refl _)
  simp [Ghost.addI]

theorem flat_get (zs : List AV) (h : 0 < zs.length) : ∀ (n q : Nat), q < n * zs.length → ((List.replicate n zs).flatten)[q]? = zs[q % zs.length]?
  | 0, q, hq => by simp at hq
  | n + 1, q, hq => by
    simp only [List.replicate_succ, List.flatten_cons]
    by_cases hlt : q < zs.length
    · rw [List.getElem?_append_left hlt, Nat.mod_eq_of_lt hlt]
    · rw [Nat.add_mul, Nat.one_mul] at hq
      rw [List.getElem?_append_right (by omega), flat_get zs h n _ (by omega), ← Nat.mod_eq_sub_mod (by omega)]

theorem flat_len (zs : List AV) (n : Nat) : (List.replicate n zs).flatten.length = n * zs.length := by simp

theorem zero_get {I : IMap} {z : Value} {zs : List AV} (hz : mapO ofCell z.cells.toList = some zs) (h0 : 0 < zs.length) (q : Nat) : RelC I (zs[q % zs.length]'(Nat.mod_lt _ h0)) (z.cells[q % z.cells.size]!) := by
  obtain ⟨c1, c2, c3⟩ := cells_rel (I := I) hz
  have hlt : q % zs.length < z.cells.size := by rw [c1]; exact Nat.mod_lt _ h0
  have := c3 (q % zs.length) (Nat.mod_lt _ h0)
  rw [c1]
  have e : z.cells[q % zs.length]! = z.cells.getD (q % zs.length) Go.undef := by simp [Array.getD, hlt]
  rw [e]
  exact this

theorem zero_rows {I : IMap} {es n : Nat} {z : Value} {zs : List AV} (hz : mapO ofCell z.cells.toList = some zs) (hl : zs.length = es) (h0 : 0 < es) : Rows I es (List.replicate n zs) ((Array.range (n * es)).map (z.cells[· % z.cells.size]!)) := by
  obtain ⟨c1, c2, c3⟩ := cells_rel (I := I) hz
  refine ⟨by simp, fun r hr => ?_, fun r hr => ?_, fun i hi j hj => ?_⟩
  · rw [(List.mem_replicate.1 hr).2]; exact hl
  · rw [(List.mem_replicate.1 hr).2]; exact c2
  · have hi' : i < n := by simpa using hi
    have hj' : j < es := by simp only [List.getElem_replicate] at hj; omega
    have hlt : i * es + j < n * es := row_lt hi' hj'
    have hm : (i * es + j) % es = j := by rw [Nat.mul_comm, Nat.mul_add_mod, Nat.mod_eq_of_lt hj']
    have := zero_get (I := I) hz (by omega) (i * es + j)
    simp only [hl, hm] at this
    have e : ((Array.range (n * es)).map (z.cells[· % z.cells.size]!)).getD (i * es + j) Go.undef = z.cells[(i * es + j) % z.cells.size]! := by simp [Array.getD, hlt]
    rw [e]
    simp only [List.getElem_replicate]
    exact this

theorem buildSlice_sound (h : At P B0 w0 G k nl s w) {t e : TypeId} {es len : Nat} {zs : List AV} {rows : List (List AV)} {parts : Array (Nat × Operand)} {ps : List (Nat × AOpd)} {ρ : Nat → AV} {a : Act} (hR : TmpsRel G k nl ρ a)
    (ht : P.underlying t = some (.slice e)) (hs : sizeP P e = some es) (hz : zeroP P e = some zs) (hp : compRows parts.toList = some ps) (hle : len * es ≤ 2 ^ 24) (hl : zs.length = es) (h0 : 0 < es)
    (hb : buildRows (List.replicate len zs) (evalT ρ) ps = some rows) :
    ∃ z w', (Instr.buildSlice t len (parts.map fun (i, x) => (i, a.eval x))).run P w = .ok z w' ∧ StepTo P B0 w0 G k nl s s w' (.slice .full es rows) z := by
  obtain ⟨z, h1, h2⟩ := zeroP_run hz
  have hrows := zero_rows (I := G.I) (n := len) h2 hl h0
  have hm : (parts.map fun (i, x) => (i, a.eval x)).toList = parts.toList.map fun p => (p.1, a.eval p.2) := by simp
  obtain ⟨arr', k1, k2, k3⟩ := rows_sound hR parts.toList ps _ rows _ hp hrows hb
  have hlen : rows.length = len := by rw [k3]; simp
  refine ⟨_, _, ?_, newI h e k2 hlen⟩
  have hngt : ¬ (len * es > 2 ^ 24) := by omega
  by_cases hn : len * es = 0
  · have hl0 : len = 0 := by
      rcases Nat.mul_eq_zero.1 hn with h' | h'
      · exact h'
      · omega
    subst hl0
    simp only [Nat.zero_mul, Array.range_zero', Array.map_empty] at k1
    have e0 : ((Array.range 0).map fun x : Nat => ((#[] : Array Value)[x % (#[] : Array Value).size]!)) = #[] := by simp
    simp only [Instr.buildSlice, Sem.run_bind, run_underlying ht, Result.andThen_ok, sizeOf_run hs, if_neg hngt, if_pos hn, Sem.run_pure, hm]
    simp only [Nat.zero_mul, e0, k1, newRow, run_newObj, Sem.run_bind, Result.andThen_ok, Sem.run_pure]
    rfl
  · simp only [Instr.buildSlice, Sem.run_bind, run_underlying ht, Result.andThen_ok, sizeOf_run hs, if_neg hngt, if_neg hn, zeroValue_run h1, Sem.run_pure, hm, k1, newRow, run_newObj]
    rfl

theorem mkSlice_sound (h : At P B0 w0 G k nl s w) {t e : TypeId} {es by_ : Nat} {zs : List AV} {l c v : AV} {lv cv : Value} {s' : Sig} (ht : P.underlying t = some (.slice e)) (hs : sizeP P e = some es) (hby : bytesP P e = some by_)
    (hz : zeroP P e = some zs) (hl : zs.length = es) (h0 : 0 < es) (hble : by_ ≤ 4096) (hx : Rel G k nl l lv) (hy : Rel G k nl c cv) (hm : mkSliceOp s es zs l c = some (v, s')) :
    ∃ z w', (Instr.makeSlice t lv cv).run P w = .ok z w' ∧ StepTo P B0 w0 G k nl s s' w' v z := by
  unfold mkSliceOp at hm
  obtain ⟨cn, hc, hm⟩ := Option.bind_eq_some_iff.1 hm
  obtain ⟨ln, hln, hm⟩ := Option.map_eq_some_iff.1 hm
  injection hm with hm1 hm2
  subst hm1 hm2
  obtain ⟨kc, zc, rfl, zc0, zc1, rfl⟩ := asNat_rel hy hc
  obtain ⟨kl, zl, rfl, zl0, zl1, rfl⟩ := asNat_rel hx hln
  obtain ⟨z, h1, h2⟩ := zeroP_run hz
  obtain ⟨i, hi, rfl⟩ := info_of hby
  have hsz : i.size = es := by
    unfold sizeP at hs
    rw [hi] at hs
    simpa using hs
  have hzi : i.zero = some z := by
    rw [hi] at h1
    simpa using h1
  have hzc : zl ≤ zc := by omega
  have hmost : zc ≤ 4294967296 := by unfold most at zc1; exact zc1
  have hbytes : (i.bytes : Int) * zc ≤ 281474976710656 := by
    calc (i.bytes : Int) * zc ≤ 4096 * zc := Int.mul_le_mul_of_nonneg_right (by omega) zc0
      _ ≤ 281474976710656 := by omega
  have hrun := run_make (P := P) w t e i z ht hi hzi kl kc zl zc zl0 hzc hbytes (by omega)
  rw [hsz] at hrun
  refine ⟨_, _, hrun, ?_⟩
  have hrow : Row2 (Rel G k nl) (List.replicate zc.toNat zs).flatten (madeCells z.cells (zc.toNat * es)) := by
    refine ⟨by rw [size_madeCells, flat_len, hl], fun q hq => ?_⟩
    rw [flat_len] at hq
    have hg := flat_get zs (by omega) zc.toNat q hq
    have hmod : q % zs.length < zs.length := Nat.mod_lt _ (by omega)
    rw [List.getElem?_eq_getElem hmod, List.getElem?_eq_getElem (by rw [flat_len]; exact hq)] at hg
    injection hg with hg
    rw [hg]
    have := zero_get (I := G.I) h2 (by omega) q
    have e : (madeCells z.cells (zc.toNat * es)).getD q Go.undef = z.cells[q % z.cells.size]! := by
      have : q < zc.toNat * es := by rw [← hl]; exact hq
      simp [madeCells, Array.getD, this]
    rw [e]
    exact .cl this
  have hcells : ∀ c, c ∈ (List.replicate zc.toNat zs).flatten → c.isCell = true := fun c hc => by
    obtain ⟨r, hr, hc⟩ := List.mem_flatten.1 hc
    rw [(List.mem_replicate.1 hr).2] at hc
    exact (cells_rel (I := G.I) h2).2.1 c hc
  exact (newBox_sound h e hcells hrow).2.2 es zl.toNat zc.toNat (by omega)

/-! ### Conversions -/

theorem bytesOf_spec {xs : List (List AV)} {l : List UInt8} (hl : bytesOf xs = some l) : l.length = xs.length ∧ ∀ i (hi : i < xs.length) (hj : i < l.length), xs[i] = [.v (.int .u8 (l[i].toNat : Int))] := by
  induction xs generalizing l with
  | nil => simp only [bytesOf] at hl; injection hl with hl; subst hl; simp
  | cons x r ih =>
    simp only [bytesOf] at hl
    split at hl
    · rename_i b s' hb hs'
      injection hl with hl
      subst hl
      obtain ⟨i1, i2⟩ := ih hs'
      refine ⟨by simp [i1], fun i hi hj => ?_⟩
      cases i with
      | zero =>
        simp only [List.getElem_cons_zero]
        unfold byteOf at hb
        split at hb
        · split at hb
          · rename_i n hn
            injection hb with hb
            subst hb
            have : ((UInt8.ofNat n.toNat).toNat : Int) = n := by
              rw [UInt8.toNat_ofNat']
              omega
            rw [this]
          · cases hb
        · cases hb
      | succ i => simpa using i2 i (by simpa using hi) (by simpa using hj)
    · cases hl

theorem conv_sound (h : At P B0 w0 G k nl s w) {src dst : TypeId} {x : Operand} {ax : AOpd} {op : AOp} {kd : ConvKind} {a v : AV} {y : Value} (hc : compConv P src dst ax = some (.conv kd ax)) (hx : Rel G k nl a y) (hv : convOp kd a = some v) :
    ∃ z w', (convert src dst y).run P w = .ok z w' ∧ StepTo P B0 w0 G k nl s s w' v z := by
  unfold compConv at hc
  split at hc
  · rename_i k1 k2 hs hd
    injection hc with hc
    injection hc with hc
    subst hc
    cases a with
    | v q =>
      obtain rfl := hx.inv_v
      cases y with
      | int k3 n =>
        simp only [convOp] at hv
        injection hv with hv
        subst hv
        exact ⟨_, w, by simp [convert, run_underlying hs, run_underlying hd, Conv.intToInt], .same h (.val _ rfl)⟩
      | _ => simp [convOp] at hv
    | _ => simp [convOp] at hv
  · rename_i hs hd
    injection hc with hc
    injection hc with hc
    subst hc
    cases a with
    | v q =>
      obtain rfl := hx.inv_v
      cases y with
      | string q =>
        simp only [convOp] at hv
        injection hv with hv
        subst hv
        exact ⟨_, w, by simp [convert, run_underlying hs, run_underlying hd], .same h (.val _ rfl)⟩
      | _ => simp [convOp] at hv
    | _ => simp [convOp] at hv
  · rename_i e hs hd
    split at hc
    · rename_i he
      injection hc with hc
      injection hc with hc
      subst hc
      cases a with
      | v q =>
        obtain rfl := hx.inv_v
        cases y with
        | string q =>
          simp only [convOp] at hv
          injection hv with hv
          subst hv
          refine ⟨_, _, run_bytes_of_string w src dst e q hs hd he, ?_⟩
          have hrel := (h.rel.drew).allocI (bytesRow q (grownCap w q.size 0 e)) e ((bytesRow q (grownCap w q.size 0 e)).size, (bytesRow q (grownCap w q.size 0 e)).size + 1)
          have hle := G.addI_le w.heap.size (bytesRow q (grownCap w q.size 0 e)) h.rel.I_new (k + 1) s.loops.length
          refine ⟨_, h.to hrel (hle.less (by omega) h.nle) rfl, hle, rfl, .cl ?_⟩
          have hlen : (byteCells q).length = q.size := by simp only [byteCells, List.length_map, Array.length_toList]; rfl
          have hget : ∀ i (hi : i < (byteCells q).length), (byteCells q)[i] = [.v (.int .u8 ((q.data[i]'(by rw [hlen] at hi; exact hi)).toNat : Int))] := fun i hi => by
            simp [byteCells]
          have : SliceC ((G.addI w.heap.size (bytesRow q (grownCap w q.size 0 e))).I) 1 (byteCells q) ⟨w.heap.size, 0, none⟩ (grownCap w q.size 0 e) := by
            refine SliceC.mk (fun c => (.int .u8 ((q.data.getD c 0).toNat : Int))) (by rw [hlen]; exact grownCap_ge _ _ _ _) (fun r hr => ?_) (fun r hr c hc => ?_) (fun c hc => ?_) (fun i hi j hj => ?_)
            · obtain ⟨i, hi, rfl⟩ := List.getElem_of_mem hr
              rw [hget i hi]; rfl
            · obtain ⟨i, hi, rfl⟩ := List.getElem_of_mem hr
              rw [hget i hi] at hc
              simp only [List.mem_singleton] at hc
              subst hc
              rfl
            · rw [hlen, Nat.mul_one] at hc
              simp only [Ghost.addI, if_true, Nat.zero_add]
              have hc' : c < q.data.size := hc
              rw [bytesRow_at q _ c hc', byte_getD hc']
            · have hi' : i < q.data.size := by rw [hlen] at hi; exact hi
              have hj0 : j = 0 := by rw [hget i hi] at hj; simpa using hj
              subst hj0
              simp only [hget i hi, List.getElem_cons_zero, Nat.mul_one, Nat.add_zero]
              rw [byte_getD hi']
              exact .v rfl
          unfold SliceC at this
          rw [hlen] at this
          exact this
        | _ => simp [convOp] at hv
      | _ => simp [convOp] at hv
    · cases hc
  · rename_i e hs hd
    split at hc
    · rename_i he
      injection hc with hc
      injection hc with hc
      subst hc
      cases a with
      | slice o es xs =>
        simp only [convOp] at hv
        obtain ⟨l, hl, rfl⟩ := Option.map_eq_some_iff.1 hv
        rcases hx.inv_slice with ⟨_, rfl, rfl⟩ | ⟨_, p, cap, rfl, hsp, hcap, hxc, _⟩
        · simp only [bytesOf] at hl
          injection hl with hl
          subst hl
          refine ⟨_, w, ?_, .same h (.val _ rfl)⟩
          rw [run_convert_bytes_string w src dst e none 0 0 hs he hd]
          simp [Conv.bytesToString]
          rfl
        · have hbs : l.length = xs.length ∧ ∀ i (hi : i < xs.length) (hj : i < l.length), xs[i] = [.v (.int .u8 (l[i].toNat : Int))] := bytesOf_spec hl
          obtain ⟨b1, b2⟩ := hbs
          refine ⟨_, w, ?_, .same h (.val _ rfl)⟩
          rw [← b1]
          refine run_convert_bytes_back w src dst e p cap l hs he hd (fun j hj => ?_)
          have hj' : j < xs.length := by omega
          cases hxc with
          | empty => exact absurd hj' (Nat.not_lt_zero _)
          | @slice _ _ _ blk off _ f ho hc hes hcell hI hR =>
            have hlen1 : xs[j].length = 1 := by rw [b2 j hj' hj]; rfl
            have hes1 : es = 1 := by rw [← hes _ (List.getElem_mem hj'), hlen1]
            have h1 := hI j hj' 0 (by omega)
            have h2 := hR j hj' 0 (by omega)
            have e0 : xs[j][0] = .v (.int .u8 (l[j].toNat : Int)) := by simp [b2 j hj' hj]
            rw [e0] at h2
            cases hf : f j 0 with
            | int k3 n =>
              rw [hf] at h2 h1
              cases h2
              rw [addr_add]
              have := h.rel.imm _ _ _ h1
              rw [hes1] at this
              simpa using this
            | _ => rw [hf] at h2; cases h2
      | v q => cases q <;> simp [convOp] at hv
      | _ => simp [convOp] at hv
    · cases hc
  · cases hc

/-! ### min and max -/

theorem maxOp_run {mx : Bool} {a b v : AV} {x y : Value} (hx : Rel G k nl a x) (hy : Rel G k nl b y) (h : maxOp mx a b = some v) :
    ∃ z, ((if mx then Builtin.max2 else Builtin.min2) x y).run P w = .ok z w ∧ Rel G k nl v z := by
  unfold maxOp at h
  split at h
  · obtain rfl := hx.inv_v
    obtain rfl := hy.inv_v
    split at h
    · injection h with h
      subst h
      refine ⟨_, ?_, .val _ rfl⟩
      cases mx <;> simp [Builtin.max2, Builtin.min2]
    · cases h
  · cases h

theorem maxFold_run {mx : Bool} : ∀ {as : List AV} {xs : List Value} {a v : AV} {x : Value}, Rel G k nl a x → xs.length = as.length → (∀ i (hi : i < as.length) (hj : i < xs.length), Rel G k nl as[i] xs[i]) → maxFold mx a as = some v →
    ∃ z, (xs.foldlM (if mx then Builtin.max2 else Builtin.min2) x).run P w = .ok z w ∧ Rel G k nl v z
  | [], [], a, v, x, hx, _, _, h => by
    simp only [maxFold] at h
    injection h with h
    subst h
    exact ⟨x, by simp, hx⟩
  | [], _ :: _, _, _, _, _, hl, _, _ => by simp at hl
  | _ :: _, [], _, _, _, _, hl, _, _ => by simp at hl
  | b :: as, y :: xs, a, v, x, hx, hl, hR, h => by
    simp only [maxFold] at h
    split at h
    · rename_i z hz
      obtain ⟨z', r1, r2⟩ := maxOp_run (P := P) (w := w) hx (hR 0 (by simp) (by simp)) hz
      obtain ⟨z'', r3, r4⟩ := maxFold_run r2 (by simpa using hl) (fun i hi hj => hR (i + 1) (by simpa using hi) (by simpa using hj)) h
      refine ⟨z'', ?_, r4⟩
      have r1' : ((if mx then Builtin.max2 else Builtin.min2) x y).run P w = .ok z' w := r1
      simp only [List.foldlM_cons, Sem.run_bind, r1', Result.andThen_ok, r3]
    · cases h

theorem minmax_sound {mx : Bool} {as : List AV} {xs : Array Value} {v : AV} (ts : Array TypeId) (ty : TypeId) (hl : xs.size = as.length) (hR : ∀ i (hi : i < as.length), Rel G k nl as[i] (xs.getD i Go.undef)) (h : minmaxOp mx as = some v) :
    ∃ z, ((if mx then Builtin.max_ else Builtin.min_) ts ty xs).run P w = .ok z w ∧ Rel G k nl v z := by
  cases as with
  | nil => simp [minmaxOp] at h
  | cons a as =>
    simp only [minmaxOp] at h
    obtain ⟨ys⟩ := xs
    cases ys with
    | nil => simp at hl
    | cons y ys =>
      have h0 := hR 0 (by simp)
      simp only [List.getElem_cons_zero] at h0
      obtain ⟨z, r1, r2⟩ := maxFold_run (P := P) (w := w) (xs := ys) (x := y) (by simpa using h0) (by simpa using hl) (fun i hi hj => by
        have := hR (i + 1) (by simpa using hi)
        simpa [Array.getD, hj] using this) h
      refine ⟨z, ?_, r2⟩
      cases mx <;> simpa [Builtin.max_, Builtin.min_] using r1

end
end Go.Ax
