/-
  append: to a slice that is nil or full, and to one with the right to grow.
-/
import Derived.Test.YtfmojojicndbcaaAxF
namespace Go.Ax
open Go.RowKit

section
variable {P : Program} {B0 : Nat} {w0 : World} {G : Ghost} {k nl : Nat} {w : World} {s : Sig}

/-! ### A slice's cells in one row -/

theorem SliceC.flat {I : IMap} {es : Nat} {xs : List (List AV)} {a : Addr} {cap : Nat} (h : SliceC I es xs a cap) (hes : 0 < es) :
    (0 < cap → a.spot = none) ∧ xs.length ≤ cap ∧ (∀ r, r ∈ xs → r.length = es) ∧ (∀ r, r ∈ xs → ∀ c, c ∈ r → c.isCell = true) ∧
    ∃ g : Nat → Value, (∀ c, c < xs.length * es → I a.block (a.off + c) = some (g c)) ∧ ∀ i (hi : i < xs.length) j (hj : j < xs[i].length), RelC I (xs[i][j]) (g (i * es + j)) := by
  cases h with
  | empty => exact ⟨fun h => absurd h (Nat.lt_irrefl _), Nat.le_refl _, by simp, by simp, fun _ => Go.undef, fun c hc => by simp at hc, fun i hi => absurd hi (Nat.not_lt_zero _)⟩
  | slice f ho hc hlen hcell hI hR =>
    refine ⟨fun _ => rfl, hc, hlen, hcell, fun c => f (c / es) (c % es), fun c hlt => ?_, fun i hi j hj => ?_⟩
    · have h1 : c / es < xs.length := by rw [Nat.div_lt_iff_lt_mul hes]; exact hlt
      have h2 : c % es < (xs[c / es]).length := by rw [hlen _ (List.getElem_mem h1)]; exact Nat.mod_lt _ hes
      have := hI (c / es) h1 (c % es) h2
      rw [Nat.add_assoc, Nat.div_add_mod'] at this
      exact this
    · have hj' : j < es := by rw [← hlen _ (List.getElem_mem hi)]; exact hj
      have e1 : (i * es + j) / es = i := by rw [Nat.mul_comm, Nat.mul_add_div hes, Nat.div_eq_of_lt hj']; omega
      have e2 : (i * es + j) % es = j := by rw [Nat.mul_comm, Nat.mul_add_mod, Nat.mod_eq_of_lt hj']
      simp only [e1, e2]
      exact hR i hi j hj

theorem SliceC.mk {I : IMap} {es : Nat} {xs : List (List AV)} {blk off cap : Nat} (g : Nat → Value) (hc : xs.length ≤ cap) (hlen : ∀ r, r ∈ xs → r.length = es) (hcell : ∀ r, r ∈ xs → ∀ c, c ∈ r → c.isCell = true)
    (hI : ∀ c, c < xs.length * es → I blk (off + c) = some (g c)) (hR : ∀ i (hi : i < xs.length) j (hj : j < xs[i].length), RelC I (xs[i][j]) (g (i * es + j))) : SliceC I es xs ⟨blk, off, none⟩ cap := by
  refine .slice (fun i j => g (i * es + j)) (.inl rfl) hc hlen hcell (fun i hi j hj => ?_) hR
  rw [Nat.add_assoc]
  refine hI _ ?_
  have hj' : j < es := by rw [← hlen _ (List.getElem_mem hi)]; exact hj
  calc i * es + j < i * es + es := by omega
    _ = (i + 1) * es := by rw [Nat.add_mul, Nat.one_mul]
    _ ≤ xs.length * es := Nat.mul_le_mul_right _ hi

/-- Two rows one behind the other. -/
def both (n : Nat) (f g : Nat → Value) : Nat → Value := fun c => if c < n then f c else g (c - n)

theorem both_list (n m : Nat) (f g : Nat → Value) : (List.range n).map f ++ (List.range m).map g = (List.range (n + m)).map (both n f g) := by
  apply List.ext_getElem
  · simp
  · intro i h1 h2
    simp only [List.length_append, List.length_map, List.length_range] at h1
    by_cases hi : i < n
    · rw [List.getElem_append_left (by simpa using hi)]
      simp [both, hi]
    · rw [List.getElem_append_right (by simpa using hi)]
      simp [both, hi]

/-- Elements one behind the other. -/
theorem joined_rel {I : IMap} {es : Nat} {xs ys : List (List AV)} {f g : Nat → Value} (hx : ∀ i (hi : i < xs.length) j (hj : j < xs[i].length), RelC I (xs[i][j]) (f (i * es + j)))
    (hy : ∀ i (hi : i < ys.length) j (hj : j < ys[i].length), RelC I (ys[i][j]) (g (i * es + j))) (lx : ∀ r, r ∈ xs → r.length = es) (i : Nat) (hi : i < (xs ++ ys).length) (j : Nat) (hj : j < (xs ++ ys)[i].length) :
    RelC I ((xs ++ ys)[i][j]) (both (xs.length * es) f g (i * es + j)) := by
  by_cases h : i < xs.length
  · have e : (xs ++ ys)[i] = xs[i] := List.getElem_append_left h
    have hj' : j < xs[i].length := by rw [← e]; exact hj
    have hlt : i * es + j < xs.length * es := by
      have : j < es := by rw [← lx _ (List.getElem_mem h)]; exact hj'
      calc i * es + j < i * es + es := by omega
        _ = (i + 1) * es := by rw [Nat.add_mul, Nat.one_mul]
        _ ≤ xs.length * es := Nat.mul_le_mul_right _ h
    have := hx i h j hj'
    simp only [both, hlt, if_true, e]
    exact this
  · have h' : i - xs.length < ys.length := by simp at hi; omega
    have e : (xs ++ ys)[i] = ys[i - xs.length] := List.getElem_append_right (by omega)
    have hj' : j < ys[i - xs.length].length := by rw [← e]; exact hj
    have hge : ¬ i * es + j < xs.length * es := by
      have := Nat.mul_le_mul_right es (Nat.le_of_not_lt h)
      omega
    have he : i * es + j - xs.length * es = (i - xs.length) * es + j := by
      have := Nat.mul_le_mul_right es (Nat.le_of_not_lt h)
      rw [Nat.sub_mul]; omega
    have := hy _ h' j hj'
    simp only [both, hge, if_false, he, e]
    exact this

/-! ### The run of append -/

theorem growBy_le (need : Nat) : ∀ (r c : Nat), c ≤ need + (need + 768) / 4 → Builtin.growBy need r c ≤ need + (need + 768) / 4
  | 0, c, h => h
  | r + 1, c, h => by
    simp only [Builtin.growBy]
    split
    · exact h
    · exact growBy_le need r _ (by omega)

theorem nextcap_le (need old : Nat) (h : old < need) : Builtin.nextslicecap need old ≤ 2 * need + 1000 := by
  unfold Builtin.nextslicecap
  split
  · omega
  · split
    · omega
    · have := growBy_le need 4 old (by omega)
      omega

structure ElemT (P : Program) (t e : TypeId) (es by_ : Nat) (z : Value) : Prop where
  slice : P.underlying t = some (.slice e)
  size : sizeP P e = some es
  bytes : bytesP P e = some by_
  zero : (P.info? e).bind (·.zero) = some z
  zlen : z.cells.size = es
  pos : 0 < es
  bpos : 0 < by_
  ble : by_ ≤ 4096

theorem zeroValue_run {e : TypeId} {z : Value} (h : (P.info? e).bind (·.zero) = some z) (w : World) : (zeroValue e).run P w = .ok z w := by
  cases hi : P.info? e with
  | none => rw [hi] at h; cases h
  | some i =>
    rw [hi] at h
    simp only [Option.bind_some] at h
    simp [zeroValue, typeInfo, hi, h]

theorem typeInfo_bytes {α : Type} {e : TypeId} {b : Nat} (h : bytesP P e = some b) (w : World) (f : Nat → Sem α) :
    (do let i ← typeInfo e; f i.bytes).run P w = (f b).run P w := by
  unfold bytesP at h
  cases hi : P.info? e with
  | none => rw [hi] at h; cases h
  | some i =>
    rw [hi] at h
    simp only [Option.map_some, Option.some.injEq] at h
    subst h
    simp [typeInfo, hi]

theorem info_of {e : TypeId} {b : Nat} (h : bytesP P e = some b) : ∃ i, P.info? e = some i ∧ i.bytes = b := by
  unfold bytesP at h
  cases hi : P.info? e with
  | none => rw [hi] at h; cases h
  | some i =>
    rw [hi] at h
    simp only [Option.map_some, Option.some.injEq] at h
    exact ⟨i, rfl, h⟩

theorem firstCells_run {a : Addr} {n es len cap : Nat} {g : Nat → Value} (h : ∀ c, c < n * es → w.cell? (a.add c) = some (g c)) :
    (Builtin.firstCells es n (.slice (some a) len cap)).run P w = .ok ((List.range (n * es)).map g).toArray w := by
  simp only [Builtin.firstCells]
  exact run_loadCells w a (n * es) g h

/-- Nothing is appended. -/
theorem append_none_run {t u e ty : TypeId} {es by_ n cap : Nat} {z : Value} (hT : ElemT P t e es by_ z) (hu : ∃ e', P.underlying u = some (.slice e')) (base b : Option Addr) (c : Nat) (hle : n ≤ cap) :
    (Builtin.append_ #[t, u] ty #[.slice base n cap, .slice b 0 c]).run P w = .ok (.slice base n cap) w := by
  obtain ⟨e', hu⟩ := hu
  obtain ⟨i, hi, _⟩ := info_of hT.bytes
  have hs : i.size = es := by have := hT.size; unfold sizeP at this; rw [hi] at this; simpa using this
  have hf : ∀ b : Option Addr, (Builtin.firstCells es 0 (.slice b 0 c)).run P w = .ok #[] w := fun b => by
    cases b with
    | none => simp [Builtin.firstCells]
    | some a => simp [Builtin.firstCells, loadCells, loadCellsFrom]
  cases base with
  | none => simp [Builtin.append_, run_underlying hT.slice, run_underlying hu, sizeOf, typeInfo, hi, hs, Builtin.lenOf, hle, hf]
  | some a => simp [Builtin.append_, run_underlying hT.slice, run_underlying hu, sizeOf, typeInfo, hi, hs, Builtin.lenOf, hle, hf, storeCells]

/-- There is room. -/
theorem append_room_run {t u e ty : TypeId} {es by_ n m cap c blk : Nat} {z : Value} {a : Addr} {g : Nat → Value} {arr : Array Value} {tb : TypeId} (hT : ElemT P t e es by_ z) (hu : ∃ e', P.underlying u = some (.slice e')) (hle : n + m ≤ cap)
    (hg : ∀ c, c < m * es → w.cell? (a.add c) = some (g c)) (hw : w.heap[blk]? = some (.cells arr tb)) (hsz : (n + m) * es ≤ arr.size) (h1 : ∀ c, c < m * es → (g c).oneCell' = true) :
    (Builtin.append_ #[t, u] ty #[.slice (some ⟨blk, 0, none⟩) n cap, .slice (some a) m c]).run P w = .ok (.slice (some ⟨blk, 0, none⟩) (n + m) cap) (w.setCells blk (n * es) ((List.range (m * es)).map g)) := by
  obtain ⟨e', hu⟩ := hu
  obtain ⟨i, hi, _⟩ := info_of hT.bytes
  have hs : i.size = es := by have := hT.size; unfold sizeP at this; rw [hi] at this; simpa using this
  have hfc := firstCells_run (P := P) (len := m) (cap := c) hg
  have hst := run_storeCells_cells (P := P) blk (n * es) ((List.range (m * es)).map g) 0 w (fun j hj => by
      rw [cell_of_heap hw]
      have hj' : j < m * es := by simpa using hj
      rw [Nat.add_mul] at hsz
      simp; omega) (fun j _ => frozen_of_heap hw) (fun v hv => by
      simp only [List.mem_map, List.mem_range] at hv
      obtain ⟨c, hc, rfl⟩ := hv
      exact h1 c hc)
  rw [Nat.add_zero] at hst
  simp [Builtin.append_, run_underlying hT.slice, run_underlying hu, sizeOf, typeInfo, hi, hs, Builtin.lenOf, hle, hfc, addr_add, hst]

/-- There is none: a new row. -/
theorem append_grow_run {t u e ty : TypeId} {es by_ n m cap c : Nat} {z : Value} {base : Option Addr} {a : Addr} {f g : Nat → Value} (hT : ElemT P t e es by_ z) (hu : ∃ e', P.underlying u = some (.slice e')) (hgt : ¬ n + m ≤ cap) (hmost : n + m ≤ most)
    (hf : ∀ b, base = some b → ∀ c, c < n * es → w.cell? (b.add c) = some (f c)) (hf0 : base = none → n = 0) (hg : ∀ c, c < m * es → w.cell? (a.add c) = some (g c)) :
    ∃ (newCap : Nat) (rest : List Value), n + m ≤ newCap ∧ rest.length = (newCap - (n + m)) * es ∧
      (Builtin.append_ #[t, u] ty #[.slice base n cap, .slice (some a) m c]).run P w =
        .ok (.slice (some ⟨w.heap.size, 0, none⟩) (n + m) newCap) (w.drew.alloc (.cells ((List.range (n * es + m * es)).map (both (n * es) f g) ++ rest).toArray e)) := by
  obtain ⟨e', hu⟩ := hu
  obtain ⟨i, hi, hby⟩ := info_of hT.bytes
  have hs : i.size = es := by have := hT.size; unfold sizeP at this; rw [hi] at this; simpa using this
  have hz : i.zero = some z := by have := hT.zero; rw [hi] at this; simpa using this
  have hgt' : cap < n + m := by omega
  have hncap := nextcap_le (n + m) cap hgt'
  unfold most at hmost
  have hbig : ¬ Builtin.nextslicecap (n + m) cap * i.bytes > 2 ^ 48 := by
    rw [hby]
    have h1 : Builtin.nextslicecap (n + m) cap * by_ ≤ (2 * 4294967296 + 1000) * 4096 := Nat.mul_le_mul (by omega) hT.ble
    omega
  have hb0 : ¬ i.bytes = 0 := by have := hT.bpos; omega
  have hfc := firstCells_run (P := P) (w := w.drew) (n := m) (es := es) (a := a) (g := g) (len := m) (cap := c) hg
  have hold : (Builtin.firstCells es n (.slice base n cap)).run P w.drew = .ok ((List.range (n * es)).map f).toArray w.drew := by
    cases base with
    | none => rw [hf0 rfl]; simp [Builtin.firstCells]
    | some b => exact firstCells_run (P := P) (w := w.drew) (hf b rfl)
  have hcap : n + m ≤ (Question.appendCap (n + m) cap e).cut (w.tape w.drawn (Question.appendCap (n + m) cap e)) := by simp [Question.cut]
  generalize hnc : (Question.appendCap (n + m) cap e).cut (w.tape w.drawn (Question.appendCap (n + m) cap e)) = newCap at hcap
  refine ⟨newCap, (Builtin.zeroCells z.cells (newCap - (n + m))).toList, hcap, by simp [Builtin.zeroCells, hT.zlen], ?_⟩
  have hfo : (Question.appendCap (n + m) cap e).forced = false := rfl
  simp only [Builtin.append_, List.getElem?_toArray, List.getElem?_cons_zero, List.getElem?_cons_succ, Sem.run_bind, Sem.run_pure, Result.andThen_ok, run_underlying hT.slice, run_underlying hu, sizeOf_run hT.size,
    Builtin.lenOf, Bool.false_eq_true, hgt, ↓reduceIte]
  simp [typeInfo, hi, hb0, hbig, hold, hfc, newRow, hfo, hnc, zeroValue_run hT.zero]
  rw [← both_list]
  congr 2
  apply Array.ext'
  simp

/-! ### The step -/

theorem RecRel.tokens {G' : Ghost} {w' : World} {d g0 : Nat} {r : Rec} {gr : GRec} (hrr : RecRel B0 G d r gr w) (hle : GLe d gr.nl G G') (hk : KeepsOwn (· = .tok d g0) G w G' w') {toks' : List (Option Nat)} {tk' : List TokG}
    (hl : tk'.length = toks'.length)
    (hg : ∀ (g : Nat) (n : Option Nat) (T : TokG), toks'[g]? = some n → tk'[g]? = some T → (g ≠ g0 ∧ r.toks[g]? = some n ∧ gr.tk[g]? = some T) ∨ (g = g0 ∧ TokRel B0 G' d g n T w')) :
    RecRel B0 G' d { r with toks := toks' } { gr with tk := tk' } w' := by
  refine ⟨hrr.blen, hl, fun b cs blk e1 e2 => ?_, fun g n T e1 e2 => ?_, fun i b e1 => ?_⟩
  · have hb' := hrr.box b cs blk e1 e2
    obtain ⟨k1, k2, k3⟩ := hk _ _ hb'.2.1 (fun e => by cases e)
    exact hb'.keep hle k1 k2 k3
  · rcases hg g n T e1 e2 with ⟨hne, h1, h2⟩ | ⟨_, h⟩
    · have ht := hrr.tok g n T h1 h2
      have hs : ∀ (hn : n.isSome = true), G'.own T.blk = some (.tok d g) ∧ w'.heap[T.blk]? = w.heap[T.blk]? ∧ ∀ i, G.I T.blk i = none → G'.I T.blk i = none := fun hn => by
        obtain ⟨m, hm⟩ := Option.isSome_iff_exists.1 hn
        exact hk _ _ (ht.2 m hm).2.1 (fun e => by injection e with _ e; exact hne e)
      exact ht.keep (fun hn => (hs hn).1) (fun hn => (hs hn).2.1) (fun hn => (hs hn).2.2)
    · exact h
  · have hm := hrr.mark i b e1
    obtain ⟨k1, k2, _⟩ := hk _ _ hm.2.1 (fun e => by cases e)
    exact hm.keep k1 k2

/-- The cells of a new row that are read from here on: the first n. -/
def Ghost.addRow (G : Ghost) (b n : Nat) (f : Nat → Value) : IMap := fun c i => if c = b then (if i < n then some (f i) else none) else G.I c i

theorem both_rel {xs ys : List (List AV)} {es : Nat} {I : IMap} {f g : Nat → Value} {blk cap : Nat} (lx : ∀ r, r ∈ xs → r.length = es) (ly : ∀ r, r ∈ ys → r.length = es)
    (cx : ∀ r, r ∈ xs → ∀ c, c ∈ r → c.isCell = true) (cy : ∀ r, r ∈ ys → ∀ c, c ∈ r → c.isCell = true) (hcap : xs.length + ys.length ≤ cap)
    (hI : ∀ c, c < (xs.length + ys.length) * es → I blk c = some (both (xs.length * es) f g c))
    (hx : ∀ i (hi : i < xs.length) j (hj : j < xs[i].length), RelC I (xs[i][j]) (f (i * es + j))) (hy : ∀ i (hi : i < ys.length) j (hj : j < ys[i].length), RelC I (ys[i][j]) (g (i * es + j))) :
    SliceC I es (xs ++ ys) ⟨blk, 0, none⟩ cap := by
  refine SliceC.mk (both (xs.length * es) f g) (by simpa using hcap) (fun r hr => ?_) (fun r hr => ?_) (fun c hc => ?_) (joined_rel hx hy lx)
  · rcases List.mem_append.1 hr with h | h
    · exact lx r h
    · exact ly r h
  · rcases List.mem_append.1 hr with h | h
    · exact cx r h
    · exact cy r h
  · rw [Nat.zero_add]
    exact hI c (by simpa using hc)

/-- A slice that is nil or full gets a row of its own. -/
theorem append_new (h : At P B0 w0 G k nl s w) {es n : Nat} {xs ys : List (List AV)} {f g : Nat → Value} {newCap : Nat} {rest : List Value} {e : TypeId} (hes : 0 < es) (hn : n = xs.length + ys.length)
    (lx : ∀ r, r ∈ xs → r.length = es) (ly : ∀ r, r ∈ ys → r.length = es) (cx : ∀ r, r ∈ xs → ∀ c, c ∈ r → c.isCell = true) (cy : ∀ r, r ∈ ys → ∀ c, c ∈ r → c.isCell = true)
    (hx : ∀ i (hi : i < xs.length) j (hj : j < xs[i].length), RelC G.I (xs[i][j]) (f (i * es + j))) (hy : ∀ i (hi : i < ys.length) j (hj : j < ys[i].length), RelC G.I (ys[i][j]) (g (i * es + j)))
    (hcap : n ≤ newCap) (hrest : rest.length = (newCap - n) * es) :
    StepTo P B0 w0 G k nl s (s.addTok k n) (w.drew.alloc (.cells ((List.range (xs.length * es + ys.length * es)).map (both (xs.length * es) f g) ++ rest).toArray e))
      (.slice (.tok k (s.ntok k)) es (xs ++ ys)) (.slice (some ⟨w.heap.size, 0, none⟩) n newCap) := by
  obtain ⟨r, gr, hr, hg⟩ := h.rec_ (Nat.le_refl k)
  have hrr := h.rel.rec_ k r gr hr hg
  have hnt : s.ntok k = r.toks.length := by simp [Sig.ntok, hr]
  have hsum : xs.length * es + ys.length * es = n * es := by rw [hn, Nat.add_mul]
  let T : TokG := ⟨some n, w.heap.size, newCap, es⟩
  let G' : Ghost := { G with I := G.addRow w.heap.size (n * es) (both (xs.length * es) f g), acts := G.acts.modify k fun q => { q with tk := q.tk ++ [T] }, own := fun b => if b = w.heap.size then some (.tok k r.toks.length) else G.own b }
  generalize harr : ((List.range (xs.length * es + ys.length * es)).map (both (xs.length * es) f g) ++ rest).toArray = arr
  have hasz : arr.size = newCap * es := by
    rw [← harr]
    simp only [List.size_toArray, List.length_append, List.length_map, List.length_range, hrest, hsum]
    rw [← Nat.add_mul]
    congr 1
    omega
  have hget : ∀ c, c < n * es → arr[c]? = some (both (xs.length * es) f g c) := fun c hc => by
    rw [← harr, hsum]
    simp only [List.getElem?_toArray]
    rw [List.getElem?_append_left (by simpa using hc)]
    simp [hc]
  let w' := w.drew.alloc (.cells arr e)
  have hI : ∀ b i v, G.I b i = some v → G'.I b i = some v := fun b i v e => by
    have := h.rel.I_lt e
    simp only [G', Ghost.addRow]
    rw [if_neg (by omega)]
    exact e
  have hk : KeepsOwn (· = .tok k r.toks.length) G w G' w' := fun b o e _ => by
    have hlt := h.rel.ownlt b o e
    refine ⟨by simp only [G']; rw [if_neg (by omega)]; exact e, Below.heap_alloc w.drew _ _ hlt, fun i e => ?_⟩
    simp only [G', Ghost.addRow]
    rw [if_neg (by omega)]
    exact e
  have hle0 : RecLe gr { gr with tk := gr.tk ++ [T] } := ⟨fun b blk e => e, fun g T e => ⟨T, get_old e, .refl T⟩, rfl⟩
  have hnew : w'.heap[w.heap.size]? = some (.cells arr e) := World.alloc_heap_new w.drew _
  have hgle : GLe k gr.nl G G' := ⟨hI, fun d q _ e => by
    show ∃ gr', (G.acts.modify k _)[d]? = some gr' ∧ _
    rw [modify_get]
    by_cases hd : k = d
    · subst hd
      rw [hg] at e
      injection e with e
      subst e
      exact ⟨_, by rw [if_pos rfl, hg]; rfl, hle0, fun _ => rfl⟩
    · exact ⟨q, by rw [if_neg hd]; exact e, .refl q, fun _ => rfl⟩, fun _ _ _ e => e⟩
  have hstep := h.rel.onRec (G' := G') (w' := w') hr hg (fun r => { r with toks := r.toks ++ [some n] }) (fun q => { q with tk := q.tk ++ [T] }) (· = .tok k r.toks.length) rfl rfl hI hle0 rfl hk
    (fun o ho => .inr ⟨_, ho⟩) ?_ (fun b i v e => ?_) (((Below.refl _ _).drew).alloc h.rel.low _) (fun b o e => ?_)
  · obtain ⟨hs', hle'⟩ := hstep
    have hlen : (s.addTok k n).acts.length = s.acts.length := by simp [Sig.addTok, Sig.onRec]
    obtain ⟨gc, hgc, hgn⟩ := h.cur
    rw [hg] at hgc
    injection hgc with hgc
    subst hgc
    have hga : G'.acts[k]? = some { gr with tk := gr.tk ++ [T] } := by
      show (G.acts.modify k _)[k]? = _
      rw [modify_get, if_pos rfl, hg]; rfl
    have hgt : ({ gr with tk := gr.tk ++ [T] } : GRec).tk[r.toks.length]? = some T := by
      show (gr.tk ++ [T])[r.toks.length]? = _
      rw [← hrr.tlen, List.getElem?_append_right (Nat.le_refl _)]
      simp
    refine ⟨G', h.to hs' (hle' _ _) hlen, hle' _ _, by simp [Sig.addTok, Sig.onRec], ?_⟩
    rw [hnt]
    have hc : SliceC G'.I es (xs ++ ys) ⟨w.heap.size, 0, none⟩ newCap :=
      both_rel lx ly cx cy (by omega) (fun c hc => by
        simp only [G', Ghost.addRow]
        rw [if_pos trivial, if_pos (by rw [hn]; exact hc)]) (fun i hi j hj => (hx i hi j hj).mono hI) (fun i hi j hj => (hy i hi j hj).mono hI)
    have hl : (xs ++ ys).length = n := by simp [hn]
    have := Rel.tok (G := G') (k := k) (nl := nl) (d := k) (g := r.toks.length) (es := es) (xs := xs ++ ys) (a := ⟨w.heap.size, 0, none⟩) (cap := newCap) T _ (Nat.le_refl _) hga hgt rfl hc
      (fun m hm => by
        simp only [T] at hm
        injection hm with hm
        subst hm
        exact ⟨by omega, fun _ => ⟨rfl, rfl⟩⟩)
    rw [hl] at this
    exact this
  · refine hrr.tokens (toks' := r.toks ++ [some n]) (tk' := gr.tk ++ [T]) hgle hk (by simp [hrr.tlen]) (fun g m T' e1 e2 => ?_)
    rcases get_push e1 with ⟨hlt, e1⟩ | ⟨rfl, rfl⟩
    · refine .inl ⟨by omega, e1, ?_⟩
      rcases get_push e2 with ⟨_, e2⟩ | ⟨hb, _⟩
      · exact e2
      · rw [hrr.tlen] at hb; omega
    · have : T' = T := by
        rcases get_push e2 with ⟨hb, _⟩ | ⟨_, e⟩
        · rw [hrr.tlen] at hb; omega
        · exact e
      subst this
      refine .inr ⟨rfl, rfl, fun m hm => ?_⟩
      injection hm with hm
      subst hm
      refine ⟨h.rel.low, by simp [G', T], fun i hi => ?_, hcap, hes, arr, e, hnew, hasz⟩
      simp only [G', Ghost.addRow, T] at hi ⊢
      rw [if_pos trivial, if_neg (by omega)]
  · simp only [G', Ghost.addRow] at e
    split at e
    · rename_i hb
      subst hb
      split at e
      · rename_i hi
        injection e with e
        subst e
        rw [cell_of_heap hnew]
        exact hget i hi
      · cases e
    · rename_i hb
      have := h.rel.imm b i v e
      rw [cells_congr (w := w) (Below.heap_alloc w.drew _ _ (h.rel.I_lt e)) rfl]
      exact this
  · simp only [G'] at e
    split at e
    · rename_i hb; subst hb; simp [w']
    · have := h.rel.ownlt b o e; simp [w']; omega

theorem set_get {α : Type} {l : List α} {i j : Nat} {x y : α} (h : (l.set i x)[j]? = some y) : (j ≠ i ∧ l[j]? = some y) ∨ (j = i ∧ y = x ∧ i < l.length) := by
  rw [List.getElem?_set] at h
  by_cases hij : i = j
  · rw [if_pos hij] at h
    split at h
    · injection h with h
      exact .inr ⟨hij.symm, h.symm, by assumption⟩
    · cases h
  · rw [if_neg hij] at h
    exact .inl ⟨fun e => hij e.symm, h⟩

theorem set_same {α : Type} {l : List α} {i : Nat} {x y : α} (h : l[i]? = some y) : (l.set i x)[i]? = some x := by
  rw [List.getElem?_set, if_pos rfl, if_pos (List.getElem?_eq_some_iff.1 h).1]

/-- A token grows: what is asked of the new world and ghost. -/
theorem tok_step (h : At P B0 w0 G k nl s w) {d g n m : Nat} {r : Rec} {gr : GRec} {T T' : TokG} {w' : World} {I' : IMap} {own' : Nat → Option Owner} (hd : d ≤ k) (hr : s.acts[d]? = some r) (hg : G.acts[d]? = some gr)
    (hrt : r.toks[g]? = some (some n)) (hgt : gr.tk[g]? = some T) (hT' : T'.n = some m) (hlt : n < m) (hes : T'.es = T.es)
    (hI : ∀ b i v, G.I b i = some v → I' b i = some v) (hk : ∀ b o, G.own b = some o → o ≠ .tok d g → own' b = some o ∧ w'.heap[b]? = w.heap[b]? ∧ ∀ i, G.I b i = none → I' b i = none)
    (hnew : TokRel B0 { G with I := I', acts := G.acts.modify d fun q => { q with tk := q.tk.set g T' }, own := own' } d g (some m) T' w')
    (him : ∀ b i v, I' b i = some v → w'.cell? ⟨b, i, none⟩ = some v) (hb : Below B0 w w') (hol : ∀ b o, own' b = some o → b < w'.heap.size)
    {es : Nat} {xs : List (List AV)} {a : Addr} {cap : Nat} (hee : T'.es = es) (hlen : xs.length = m) (hc : SliceC I' es xs a cap) (ha : a = ⟨T'.blk, 0, none⟩) (hcap : cap = T'.cap) :
    StepTo P B0 w0 G k nl s (s.setTok d g (some m)) w' (.slice (.tok d g) es xs) (.slice (some a) m cap) := by
  have hrr := h.rel.rec_ d r gr hr hg
  have hTn : T.n = some n := (hrr.tok g (some n) T hrt hgt).1
  let G' : Ghost := { G with I := I', acts := G.acts.modify d fun q => { q with tk := q.tk.set g T' }, own := own' }
  have htle : TokLe T T' := ⟨hes, .inr (.inr ⟨n, m, hTn, hT', hlt⟩)⟩
  have hle0 : RecLe gr { gr with tk := gr.tk.set g T' } := ⟨fun b blk e => e, fun j U e => by
    by_cases hj : j = g
    · subst hj
      rw [hgt] at e
      injection e with e
      subst e
      exact ⟨T', set_same hgt, htle⟩
    · exact ⟨U, by show (gr.tk.set g T')[j]? = _; rw [List.getElem?_set, if_neg (fun e => hj e.symm)]; exact e, .refl U⟩, rfl⟩
  have hk' : KeepsOwn (· = .tok d g) G w G' w' := hk
  have hgle : GLe d gr.nl G G' := ⟨hI, fun d' q _ e => by
    show ∃ gr', (G.acts.modify d _)[d']? = some gr' ∧ _
    rw [modify_get]
    by_cases hdd : d = d'
    · subst hdd
      rw [hg] at e
      injection e with e
      subst e
      exact ⟨_, by rw [if_pos rfl, hg]; rfl, hle0, fun _ => rfl⟩
    · exact ⟨q, by rw [if_neg hdd]; exact e, .refl q, fun _ => rfl⟩, fun _ _ _ e => e⟩
  have hstep := h.rel.onRec (G' := G') (w' := w') hr hg (fun r => { r with toks := r.toks.set g (some m) }) (fun q => { q with tk := q.tk.set g T' }) (· = .tok d g) rfl rfl hI hle0 rfl hk'
    (fun o ho => .inr ⟨_, ho⟩) ?_ him hb hol
  · obtain ⟨hs', hle'⟩ := hstep
    have hlen' : (s.setTok d g (some m)).acts.length = s.acts.length := by simp [Sig.setTok, Sig.onRec]
    have hga : G'.acts[d]? = some { gr with tk := gr.tk.set g T' } := by
      show (G.acts.modify d _)[d]? = _
      rw [modify_get, if_pos rfl, hg]; rfl
    refine ⟨G', h.to hs' (hle' _ _) hlen', hle' _ _, by simp [Sig.setTok, Sig.onRec], ?_⟩
    have := Rel.tok (G := G') (k := k) (nl := nl) (d := d) (g := g) (es := es) (xs := xs) (a := a) (cap := cap) T' _ hd hga (set_same hgt) hee hc
      (fun p hp => by
        rw [hT'] at hp
        injection hp with hp
        subst hp
        exact ⟨by omega, fun _ => ⟨ha, hcap⟩⟩)
    rw [hlen] at this
    exact this
  · refine hrr.tokens (toks' := r.toks.set g (some m)) (tk' := gr.tk.set g T') hgle hk' (by simp [hrr.tlen]) (fun j p U e1 e2 => ?_)
    rcases set_get e1 with ⟨hne, e1⟩ | ⟨rfl, rfl, _⟩
    · rcases set_get e2 with ⟨_, e2⟩ | ⟨hj, _⟩
      · exact .inl ⟨hne, e1, e2⟩
      · exact absurd hj hne
    · rcases set_get e2 with ⟨hj, _⟩ | ⟨_, rfl, _⟩
      · exact absurd rfl hj
      · exact .inr ⟨rfl, hnew⟩

/-- Room behind: the cells are written there. -/
theorem append_room (h : At P B0 w0 G k nl s w) {d g n es : Nat} {xs ys : List (List AV)} {fx fy : Nat → Value} {r : Rec} {gr : GRec} {T : TokG} (hd : d ≤ k) (hr : s.acts[d]? = some r) (hg : G.acts[d]? = some gr)
    (hrt : r.toks[g]? = some (some xs.length)) (hgt : gr.tk[g]? = some T) (hTe : T.es = es) (hes : 0 < es) (hn : n = xs.length + ys.length) (hy0 : 0 < ys.length) (hroom : n ≤ T.cap)
    (lx : ∀ r, r ∈ xs → r.length = es) (ly : ∀ r, r ∈ ys → r.length = es) (cx : ∀ r, r ∈ xs → ∀ c, c ∈ r → c.isCell = true) (cy : ∀ r, r ∈ ys → ∀ c, c ∈ r → c.isCell = true)
    (hxI : ∀ c, c < xs.length * es → G.I T.blk c = some (fx c))
    (hx : ∀ i (hi : i < xs.length) j (hj : j < xs[i].length), RelC G.I (xs[i][j]) (fx (i * es + j))) (hy : ∀ i (hi : i < ys.length) j (hj : j < ys[i].length), RelC G.I (ys[i][j]) (fy (i * es + j))) :
    StepTo P B0 w0 G k nl s (s.setTok d g (some n)) (w.setCells T.blk (xs.length * es) ((List.range (ys.length * es)).map fy)) (.slice (.tok d g) es (xs ++ ys)) (.slice (some ⟨T.blk, 0, none⟩) n T.cap) := by
  have hrr := h.rel.rec_ d r gr hr hg
  have hTR := hrr.tok g (some xs.length) T hrt hgt
  obtain ⟨hTn, hT2⟩ := hTR
  obtain ⟨t1, t2, t3, t4, t5, arr, ty, t6, t7⟩ := hT2 _ rfl
  rw [hTe] at t3 t7
  have hsum : n * es = xs.length * es + ys.length * es := by rw [hn, Nat.add_mul]
  let I' : IMap := fun b i => if b = T.blk ∧ xs.length * es ≤ i ∧ i < n * es then some (fy (i - xs.length * es)) else G.I b i
  have hI : ∀ b i v, G.I b i = some v → I' b i = some v := fun b i v e => by
    simp only [I']
    split
    · rename_i hc
      obtain ⟨rfl, h1, _⟩ := hc
      rw [t3 i h1] at e
      cases e
    · exact e
  have hbelow : Below B0 w (w.setCells T.blk (xs.length * es) ((List.range (ys.length * es)).map fy)) := below_setCells t1 _ _ _
  have hnewheap := heap_setCells ((List.range (ys.length * es)).map fy) (xs.length * es) arr w t6
  have hother : ∀ b, b ≠ T.blk → (w.setCells T.blk (xs.length * es) ((List.range (ys.length * es)).map fy)).heap[b]? = w.heap[b]? := fun b hb => heap_setCells_other hb _ _ _
  have harrle : n * es ≤ arr.size := by rw [t7]; exact Nat.mul_le_mul_right _ hroom
  have hin := World.cell?_setCells_in T.blk ((List.range (ys.length * es)).map fy) (xs.length * es) w (fun j hj => by
    rw [cell_of_heap t6]
    have hj' : j < ys.length * es := by simpa using hj
    simp; omega)
  refine tok_step h (T := T) (T' := { T with n := some n }) (I' := I') (own' := G.own) hd hr hg hrt hgt rfl (by omega) rfl hI (fun b o ho hne => ?_) ?_ (fun b i v e => ?_) hbelow (fun b o ho => ?_) hTe (by simp [hn]) ?_ rfl rfl
  · have hb : b ≠ T.blk := by
      rintro rfl
      rw [t2] at ho
      injection ho with ho
      exact hne ho.symm
    refine ⟨ho, hother b hb, fun i e => ?_⟩
    simp only [I']
    rw [if_neg (fun hc => hb hc.1)]
    exact e
  · refine ⟨rfl, fun p hp => ?_⟩
    injection hp with hp
    subst hp
    refine ⟨t1, t2, fun i hi => ?_, hroom, t5, _, ty, hnewheap, by rw [setA_size, t7, hTe]⟩
    simp only [hTe] at hi
    simp only [I']
    rw [if_neg (fun hc => by omega)]
    exact t3 i (by omega)
  · simp only [I'] at e
    split at e
    · rename_i hc
      obtain ⟨rfl, h1, h2⟩ := hc
      injection e with e
      subst e
      have := hin (i - xs.length * es) (by simp; omega)
      rw [show xs.length * es + (i - xs.length * es) = i by omega] at this
      rw [this]
      simp
    · rename_i hc
      have hv := h.rel.imm b i v e
      rw [World.cell?_setCells_out]
      · exact hv
      · intro hb _
        have hb : b = T.blk := hb
        subst hb
        simp only [List.length_map, List.length_range]
        rcases Nat.lt_or_ge i (xs.length * es) with h1 | h1
        · exact .inl h1
        · exact .inr (by
            have : ¬ i < n * es := fun h2 => hc ⟨rfl, h1, h2⟩
            show xs.length * es + ys.length * es ≤ i
            omega)
  · rw [size_setCells]
    exact h.rel.ownlt b o ho
  · refine both_rel (f := fx) (g := fy) lx ly cx cy (by omega) (fun c hc => ?_) (fun i hi j hj => (hx i hi j hj).mono hI) (fun i hi j hj => (hy i hi j hj).mono hI)
    rw [← hn] at hc
    simp only [I', both]
    by_cases hlt : c < xs.length * es
    · rw [if_neg (fun hh => by omega), if_pos hlt]
      exact hxI c hlt
    · rw [if_pos ⟨trivial, by omega, hc⟩, if_neg hlt]

/-- No room: the row moves. -/
theorem append_move (h : At P B0 w0 G k nl s w) {d g n es : Nat} {xs ys : List (List AV)} {f fy : Nat → Value} {r : Rec} {gr : GRec} {T : TokG} {newCap : Nat} {rest : List Value} {e : TypeId} (hd : d ≤ k) (hr : s.acts[d]? = some r) (hg : G.acts[d]? = some gr)
    (hrt : r.toks[g]? = some (some xs.length)) (hgt : gr.tk[g]? = some T) (hTe : T.es = es) (hes : 0 < es) (hn : n = xs.length + ys.length) (hy0 : 0 < ys.length)
    (lx : ∀ r, r ∈ xs → r.length = es) (ly : ∀ r, r ∈ ys → r.length = es) (cx : ∀ r, r ∈ xs → ∀ c, c ∈ r → c.isCell = true) (cy : ∀ r, r ∈ ys → ∀ c, c ∈ r → c.isCell = true)
    (hx : ∀ i (hi : i < xs.length) j (hj : j < xs[i].length), RelC G.I (xs[i][j]) (f (i * es + j))) (hy : ∀ i (hi : i < ys.length) j (hj : j < ys[i].length), RelC G.I (ys[i][j]) (fy (i * es + j)))
    (hcap : n ≤ newCap) (hrest : rest.length = (newCap - n) * es) :
    StepTo P B0 w0 G k nl s (s.setTok d g (some n)) (w.drew.alloc (.cells ((List.range (xs.length * es + ys.length * es)).map (both (xs.length * es) f fy) ++ rest).toArray e))
      (.slice (.tok d g) es (xs ++ ys)) (.slice (some ⟨w.heap.size, 0, none⟩) n newCap) := by
  have hrr := h.rel.rec_ d r gr hr hg
  obtain ⟨hTn, hT2⟩ := hrr.tok g (some xs.length) T hrt hgt
  obtain ⟨t1, t2, t3, t4, t5, _, _, t6, _⟩ := hT2 _ rfl
  have hTlt : T.blk < w.heap.size := (Array.getElem?_eq_some_iff.1 t6).1
  have hsum : xs.length * es + ys.length * es = n * es := by rw [hn, Nat.add_mul]
  generalize harr : ((List.range (xs.length * es + ys.length * es)).map (both (xs.length * es) f fy) ++ rest).toArray = arr
  have hasz : arr.size = newCap * es := by
    rw [← harr]
    simp only [List.size_toArray, List.length_append, List.length_map, List.length_range, hrest, hsum]
    rw [← Nat.add_mul]
    congr 1
    omega
  have hget : ∀ c, c < n * es → arr[c]? = some (both (xs.length * es) f fy c) := fun c hc => by
    rw [← harr, hsum]
    simp only [List.getElem?_toArray]
    rw [List.getElem?_append_left (by simpa using hc)]
    simp [hc]
  have hnew : (w.drew.alloc (.cells arr e)).heap[w.heap.size]? = some (.cells arr e) := World.alloc_heap_new w.drew _
  let I' : IMap := G.addRow w.heap.size (n * es) (both (xs.length * es) f fy)
  have hI : ∀ b i v, G.I b i = some v → I' b i = some v := fun b i v e => by
    have := h.rel.I_lt e
    simp only [I', Ghost.addRow]
    rw [if_neg (by omega)]
    exact e
  refine tok_step h (T := T) (T' := ⟨some n, w.heap.size, newCap, es⟩) (I' := I') (own' := fun b => if b = w.heap.size then some (.tok d g) else if b = T.blk then none else G.own b) hd hr hg hrt hgt rfl (by omega) hTe.symm hI
    (fun b o ho hne => ?_) ?_ (fun b i v e => ?_) (((Below.refl _ _).drew).alloc h.rel.low _) (fun b o ho => ?_) rfl (by simp [hn]) ?_ rfl rfl
  · have hlt := h.rel.ownlt b o ho
    have hb : b ≠ T.blk := by
      rintro rfl
      rw [t2] at ho
      injection ho with ho
      exact hne ho.symm
    refine ⟨by rw [if_neg (by omega), if_neg hb]; exact ho, Below.heap_alloc w.drew _ _ hlt, fun i e => ?_⟩
    simp only [I', Ghost.addRow]
    rw [if_neg (by omega)]
    exact e
  · refine ⟨rfl, fun p hp => ?_⟩
    injection hp with hp
    subst hp
    refine ⟨h.rel.low, by simp, fun i hi => ?_, hcap, hes, arr, e, hnew, hasz⟩
    simp only [I', Ghost.addRow] at hi ⊢
    rw [if_pos trivial, if_neg (by omega)]
  · simp only [I', Ghost.addRow] at e
    split at e
    · rename_i hb
      subst hb
      split at e
      · rename_i hi
        injection e with e
        subst e
        rw [cell_of_heap hnew]
        exact hget i hi
      · cases e
    · rename_i hb
      have := h.rel.imm b i v e
      rw [cells_congr (w := w) (Below.heap_alloc w.drew _ _ (h.rel.I_lt e)) rfl]
      exact this
  · split at ho
    · rename_i hb; subst hb; simp
    · split at ho
      · cases ho
      · have := h.rel.ownlt b o ho; simp; omega
  · refine both_rel (f := f) (g := fy) lx ly cx cy (by omega) (fun c hc => ?_) (fun i hi j hj => (hx i hi j hj).mono hI) (fun i hi j hj => (hy i hi j hj).mono hI)
    simp only [I', Ghost.addRow]
    rw [if_pos trivial, if_pos (by rw [hn]; exact hc)]

theorem addr_eta {a : Addr} (h : a.spot = none) : a = ⟨a.block, a.off, none⟩ := by
  cases a
  cases h
  rfl

/-- append, as the executor has it. -/
theorem append_sound (h : At P B0 w0 G k nl s w) {t u e ty : TypeId} {es by_ : Nat} {z : Value} (hT : ElemT P t e es by_ z) (hu : ∃ e', P.underlying u = some (.slice e')) {a b v : AV} {x y : Value} {s' : Sig}
    (hx : Rel G k nl a x) (hy : Rel G k nl b y) (ha : appendOp s es a b = some (v, s')) :
    ∃ x' w', (Builtin.append_ #[t, u] ty #[x, y]).run P w = .ok x' w' ∧ StepTo P B0 w0 G k nl s s' w' v x' := by
  unfold appendOp at ha
  split at ha
  case h_2 => cases ha
  rename_i o e1 xs oy e2 ys
  split at ha
  · rename_i hys
    have hys : ys = [] := by simpa using hys
    subst hys
    injection ha with ha
    injection ha with h1 h2
    subst h1 h2
    have hself : StepTo P B0 w0 G k nl s s w (.slice o e1 xs) x := ⟨G, h, GLe.refl _ _ _, rfl, hx⟩
    have hyc : ∃ bb c, y = .slice bb 0 c := by
      rcases hy.inv_slice with ⟨_, _, rfl⟩ | ⟨_, aa, c, rfl, _⟩
      · exact ⟨_, _, rfl⟩
      · exact ⟨_, _, rfl⟩
    obtain ⟨bb, c, rfl⟩ := hyc
    rcases hx.inv_slice with ⟨_, _, rfl⟩ | ⟨_, aa, cap, rfl, _, hle, _⟩
    · exact ⟨_, w, append_none_run hT hu none bb c (Nat.le_refl _), hself⟩
    · exact ⟨_, w, append_none_run hT hu (some aa) bb c hle, hself⟩
  · rename_i hys
    split at ha
    case isFalse => cases ha
    rename_i hcond
    obtain ⟨rfl, he1, hmost⟩ := hcond
    have hy0 : 0 < ys.length := by
      cases ys with
      | nil => simp at hys
      | cons => simp
    rcases hy.inv_slice with ⟨_, hn, _⟩ | ⟨_, ay, cy, rfl, _, _, hyc, _⟩
    · rw [hn] at hy0; simp at hy0
    obtain ⟨hys', hcy, ly, ccy, fy, hyI, hyR⟩ := SliceC.flat hyc hT.pos
    have hay : ay = ⟨ay.block, ay.off, none⟩ := addr_eta (hys' (by omega))
    have hgy : ∀ c, c < ys.length * e2 → w.cell? (ay.add c) = some (fy c) := fun c hc => by
      rw [hay, addr_add]; exact h.rel.imm _ _ _ (hyI c hc)
    cases o with
    | any => cases ha
    | nilS =>
      injection ha with ha
      injection ha with h1 h2
      subst h1 h2
      rcases hx.inv_slice with ⟨_, rfl, rfl⟩ | ⟨hne, _⟩
      · obtain ⟨newCap, rest, hcap, hrest, hrun⟩ := append_grow_run (P := P) (w := w) (ty := ty) (n := 0) (m := ys.length) (cap := 0) (c := cy) (base := none) (a := ay) (f := fun _ => Go.undef) (g := fy) hT hu (by omega)
          (by simpa using hmost) (fun _ e => by cases e) (fun _ => rfl) hgy
        refine ⟨_, _, hrun, ?_⟩
        have := append_new h (xs := []) (ys := ys) (f := fun _ => Go.undef) (g := fy) (n := ys.length) (newCap := newCap) (rest := rest) (e := e) hT.pos (by simp) (by simp) ly (by simp) ccy (by simp) hyR (by omega) (by simpa using hrest)
        rw [h.cur_eq]
        simpa using this
      · exact absurd rfl hne
    | full =>
      injection ha with ha
      injection ha with h1 h2
      subst h1 h2
      rcases hx.inv_slice with ⟨hne, _⟩ | ⟨_, ax, cx, rfl, _, _, hxc, hfull⟩
      · cases hne
      have hcx := hfull rfl
      subst hcx
      have : e1 = e2 := by
        rcases he1 with h | h
        · cases h
        · exact h
      subst this
      obtain ⟨hxs', _, lx, ccx, fx, hxI, hxR⟩ := SliceC.flat hxc hT.pos
      have hax : ∀ c, c < xs.length * e1 → ax = ⟨ax.block, ax.off, none⟩ := fun c hc => addr_eta (hxs' (by
        rcases Nat.eq_zero_or_pos xs.length with h0 | h0
        · rw [h0] at hc; simp at hc
        · exact h0))
      obtain ⟨newCap, rest, hcap, hrest, hrun⟩ := append_grow_run (P := P) (w := w) (ty := ty) (n := xs.length) (m := ys.length) (cap := xs.length) (c := cy) (base := some ax) (a := ay) (f := fx) (g := fy) hT hu (by omega)
        hmost (fun b e c hc => by injection e with e; subst e; rw [hax c hc, addr_add]; exact h.rel.imm _ _ _ (hxI c hc)) (fun e => by cases e) hgy
      refine ⟨_, _, hrun, ?_⟩
      rw [h.cur_eq]
      exact append_new h hT.pos rfl lx ly ccx ccy hxR hyR hcap hrest
    | tok d g =>
      simp only at ha
      split at ha
      case isFalse => cases ha
      rename_i htok
      injection ha with ha
      injection ha with h1 h2
      subst h1 h2
      have : e1 = e2 := by
        rcases he1 with h | h
        · cases h
        · exact h
      subst this
      cases hx with
      | cl hx => cases hx with
        | slice f ho => rcases ho with h | ⟨h, _⟩ <;> cases h
        | empty ho => rcases ho with h | h <;> cases h
      | tok T gr hd hg ht hes hxc hn =>
      rename_i ax cx
      obtain ⟨r, gr', hr, hg'⟩ := h.rec_ hd
      rw [hg] at hg'
      injection hg' with hg'
      subst hg'
      have hrr := h.rel.rec_ d r gr hr hg
      have hrt : r.toks[g]? = some (some xs.length) := by
        have := htok.2
        simp only [Sig.tok, hr, Option.bind_some] at this
        cases hq : r.toks[g]? with
        | none => rw [hq] at this; cases this
        | some q => rw [hq] at this; simp only [Option.join_some] at this; rw [this]
      obtain ⟨hTn, hT2⟩ := hrr.tok g (some xs.length) T hrt ht
      obtain ⟨hle, heq⟩ := hn _ hTn
      obtain ⟨rfl, rfl⟩ := heq rfl
      obtain ⟨_, _, lx, ccx, fx, hxI, hxR⟩ := SliceC.flat hxc hT.pos
      obtain ⟨_, _, _, _, _, arr, tb, t6, t7⟩ := hT2 _ rfl
      by_cases hroom : xs.length + ys.length ≤ T.cap
      · refine ⟨_, _, append_room_run (P := P) (ty := ty) (n := xs.length) (m := ys.length) (c := cy) (a := ay) (g := fy) hT hu hroom hgy t6 (by rw [t7, hes]; exact Nat.mul_le_mul_right _ hroom) (fun c hc => ?_), ?_⟩
        · have h1 : c / e1 < ys.length := by rw [Nat.div_lt_iff_lt_mul hT.pos]; exact hc
          have h2 : c % e1 < (ys[c / e1]).length := by rw [ly _ (List.getElem_mem h1)]; exact Nat.mod_lt _ hT.pos
          have hr := hyR _ h1 _ h2
          rw [Nat.div_add_mod'] at hr
          exact oneCell_of_rel (G := G) (k := k) (nl := nl) (.cl hr) (ccy _ (List.getElem_mem h1) _ (List.getElem_mem h2))
        · exact append_room h hd hr hg hrt ht hes hT.pos rfl hy0 hroom lx ly ccx ccy (fun c hc => by have := hxI c hc; simpa using this) hxR hyR
      · obtain ⟨newCap, rest, hcap, hrest, hrun⟩ := append_grow_run (P := P) (w := w) (ty := ty) (n := xs.length) (m := ys.length) (cap := T.cap) (c := cy) (base := some ⟨T.blk, 0, none⟩) (a := ay) (f := fx) (g := fy) hT hu hroom
          hmost (fun b e c hc => by injection e with e; subst e; rw [addr_add]; exact h.rel.imm _ _ _ (hxI c hc)) (fun e => by cases e) hgy
        refine ⟨_, _, hrun, ?_⟩
        exact append_move h hd hr hg hrt ht hes hT.pos rfl hy0 lx ly ccx ccy hxR hyR hcap hrest

end
end Go.Ax
