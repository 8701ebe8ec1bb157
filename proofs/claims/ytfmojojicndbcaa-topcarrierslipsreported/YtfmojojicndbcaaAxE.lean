/-
  Memory: loads, stores and new boxes.
-/
import Derived.Test.YtfmojojicndbcaaAxD
import Derived.Laws.IdiomCopy
import Derived.Laws.Cells
namespace Go.Ax
open Go.RowKit

section
variable {P : Program} {B0 : Nat} {w0 : World} {G : Ghost} {k nl : Nat} {w : World} {s : Sig}

/-- Cells that are as the executor has them. -/
def Row2 (R : AV → Value → Prop) (cs : List AV) (arr : Array Value) : Prop :=
  arr.size = cs.length ∧ ∀ i (hi : i < cs.length), R cs[i] (arr.getD i Go.undef)

theorem Row2.set {R : AV → Value → Prop} {cs : List AV} {arr : Array Value} (h : Row2 R cs arr) {x : AV} {v : Value} (hx : R x v) (o : Nat) : Row2 R (cs.set o x) (arr.setIfInBounds o v) := by
  refine ⟨by simp [h.1], fun i hi => ?_⟩
  have hi' : i < cs.length := by simpa using hi
  rw [List.getElem_set]
  by_cases ho : o = i
  · subst ho
    rw [if_pos rfl]
    have : (arr.setIfInBounds o v).getD o Go.undef = v := by simp [Array.getD, h.1, hi']
    rw [this]
    exact hx
  · rw [if_neg ho]
    have : (arr.setIfInBounds o v).getD i Go.undef = arr.getD i Go.undef := by
      simp [Array.getD, h.1, hi', ho]
    rw [this]
    exact h.2 i hi'

def setA (arr : Array Value) (o : Nat) : List Value → Array Value
  | [] => arr
  | v :: r => setA (arr.setIfInBounds o v) (o + 1) r

theorem setA_size (arr : Array Value) (o : Nat) (vs : List Value) : (setA arr o vs).size = arr.size := by
  induction vs generalizing arr o with
  | nil => rfl
  | cons v r ih => simp [setA, ih]

theorem Row2.setA {R : AV → Value → Prop} {xs : List AV} {vs : List Value} (hl : vs.length = xs.length) (hR : ∀ i (hi : i < xs.length) (hj : i < vs.length), R xs[i] vs[i]) :
    ∀ {cs : List AV} {arr : Array Value} (o : Nat), Row2 R cs arr → Row2 R (setCells cs o xs) (Ax.setA arr o vs) := by
  induction xs generalizing vs with
  | nil =>
    intro cs arr o h
    cases vs with
    | nil => exact h
    | cons v r => simp at hl
  | cons x xs ih =>
    intro cs arr o h
    cases vs with
    | nil => simp at hl
    | cons v r =>
      simp only [setCells, Ax.setA]
      exact ih (by simpa using hl) (fun i hi hj => hR (i + 1) (by simpa using hi) (by simpa using hj)) (o + 1) (h.set (hR 0 (by simp) (by simp)) o)

theorem Row2.mono {R R' : AV → Value → Prop} {cs : List AV} {arr : Array Value} (h : Row2 R cs arr) (hR : ∀ x v, R x v → R' x v) : Row2 R' cs arr := ⟨h.1, fun i hi => hR _ _ (h.2 i hi)⟩

theorem setCells_length (cs : List AV) (o : Nat) (xs : List AV) : (setCells cs o xs).length = cs.length := by
  induction xs generalizing cs o with
  | nil => rfl
  | cons x r ih => simp [setCells, ih]

theorem setCells_mem {cs : List AV} {o : Nat} {xs : List AV} {c : AV} (h : c ∈ setCells cs o xs) : c ∈ cs ∨ c ∈ xs := by
  induction xs generalizing cs o with
  | nil => exact .inl h
  | cons x r ih =>
    rcases ih h with h | h
    · rcases List.mem_or_eq_of_mem_set h with h | rfl
      · exact .inl h
      · exact .inr (by simp)
    · exact .inr (by simp [h])

/-! ### Worlds -/

theorem heap_setCells {b : Nat} {ty : TypeId} : ∀ (vs : List Value) (o : Nat) (arr : Array Value) (w : World), w.heap[b]? = some (.cells arr ty) → (w.setCells b o vs).heap[b]? = some (.cells (setA arr o vs) ty)
  | [], _, _, _, h => h
  | v :: r, o, arr, w, h => by
    simp only [World.setCells, setA]
    refine heap_setCells r (o + 1) _ _ ?_
    simp [World.setCell, Array.getElem?_modify, h]

theorem heap_setCells_other {b c : Nat} (hc : c ≠ b) : ∀ (vs : List Value) (o : Nat) (w : World), (w.setCells b o vs).heap[c]? = w.heap[c]?
  | [], _, _ => rfl
  | v :: r, o, w => by
    simp only [World.setCells]
    rw [heap_setCells_other hc r (o + 1)]
    exact Below.heap_setCell _ _ _ _ hc

theorem size_setCells (b : Nat) : ∀ (vs : List Value) (o : Nat) (w : World), (w.setCells b o vs).heap.size = w.heap.size
  | [], _, _ => rfl
  | v :: r, o, w => by
    simp only [World.setCells]
    rw [size_setCells b r (o + 1)]
    simp [World.setCell]

theorem below_setCells {B b : Nat} (hb : B ≤ b) : ∀ (vs : List Value) (o : Nat) (w : World), Below B w (w.setCells b o vs)
  | [], _, w => Below.refl _ _
  | v :: r, o, w => by
    simp only [World.setCells]
    exact ((Below.refl B w).setCell (p := ⟨b, o, none⟩) hb v).trans (below_setCells hb r (o + 1) _)

theorem cell_of_heap {b i : Nat} {arr : Array Value} {ty : TypeId} {fz : Nat × Nat} (h : w.heap[b]? = some (.cells arr ty fz)) : w.cell? ⟨b, i, none⟩ = arr[i]? := by
  simp [World.cell?, h]

theorem frozen_of_heap {b i : Nat} {arr : Array Value} {ty : TypeId} (h : w.heap[b]? = some (.cells arr ty)) : w.frozen? ⟨b, i, none⟩ = false := by
  simp [World.frozen?, h]

theorem cells_congr {b c i : Nat} {w' : World} (h : w'.heap[b]? = w.heap[b]?) (hc : c = b) : w'.cell? ⟨c, i, none⟩ = w.cell? ⟨c, i, none⟩ := by
  subst hc
  simp [World.cell?, h]

/-! ### The present activation -/

structure At (P : Program) (B0 : Nat) (w0 : World) (G : Ghost) (k nl : Nat) (s : Sig) (w : World) : Prop where
  rel : SRel P B0 w0 G s w
  len : s.acts.length = k + 1
  cur : ∃ gr, G.acts[k]? = some gr ∧ gr.nl = nl

theorem At.cur_eq (h : At P B0 w0 G k nl s w) : s.cur = k := by simp [Sig.cur, h.len]

theorem At.nle (h : At P B0 w0 G k nl s w) : nl ≤ s.loops.length := by
  obtain ⟨gr, h1, rfl⟩ := h.cur
  exact h.rel.nls _ _ h1

/-- A box, with its block. -/
theorem At.box (h : At P B0 w0 G k nl s w) {d b : Nat} {cs : List AV} {gr : GRec} {blk : Nat} (hd : d ≤ k) (hc : s.box d b = some cs) (hg : G.acts[d]? = some gr) (hb : gr.bl[b]? = some blk) :
    ∃ r, s.acts[d]? = some r ∧ r.boxes[b]? = some cs ∧ BoxRel B0 G d gr.nl b cs blk w ∧
      ∃ arr ty, w.heap[blk]? = some (.cells arr ty) ∧ Row2 (Rel G k nl) cs arr ∧ ∀ c, c ∈ cs → c.isCell = true := by
  simp only [Sig.box] at hc
  cases hr : s.acts[d]? with
  | none => rw [hr] at hc; cases hc
  | some r =>
    rw [hr] at hc
    have hbx := (h.rel.rec_ d r gr hr hg).box b cs blk hc hb
    refine ⟨r, rfl, hc, hbx, ?_⟩
    obtain ⟨_, _, _, arr, ty, h4, h5, h6⟩ := hbx
    obtain ⟨gk, hgk, rfl⟩ := h.cur
    refine ⟨arr, ty, h4, ⟨h5, fun i hi => (h6 i hi).2.mono (GLe.refl _ _ _) hd (h.rel.nlm d k gr gk hd hg hgk)⟩, fun c hc' => ?_⟩
    obtain ⟨i, hi, rfl⟩ := List.getElem_of_mem hc'
    exact (h6 i hi).1

theorem addr_add (b o i : Nat) : (⟨b, o, none⟩ : Addr).add i = ⟨b, o + i, none⟩ := by
  unfold Addr.add
  split
  · rename_i h; subst h; rfl
  · rfl

/-- What a pointer leads to, cell by cell. -/
theorem At.row (h : At P B0 w0 G k nl s w) {x : AV} {y : Value} {cs : List AV} {off : Nat} (hx : Rel G k nl x y) (hr : s.row x = some (cs, off)) :
    ∃ (blk o0 : Nat) (f : Nat → Value), y = .pointer (some ⟨blk, o0 + off, none⟩) ∧ (∀ c, c ∈ cs → c.isCell = true) ∧
      (∀ i, i < cs.length → w.cell? ⟨blk, o0 + i, none⟩ = some (f i)) ∧ ∀ i (hi : i < cs.length), Rel G k nl cs[i] (f i) := by
  cases x with
  | ptr d b off' =>
    simp only [Sig.row] at hr
    cases hc : s.box d b with
    | none => rw [hc] at hr; cases hr
    | some cs' =>
      rw [hc] at hr
      simp only [Option.map_some, Option.some.injEq, Prod.mk.injEq] at hr
      obtain ⟨rfl, rfl⟩ := hr
      obtain ⟨blk, gr, rfl, hd, hg, hb⟩ := hx.inv_ptr
      obtain ⟨r, _, _, _, arr, ty, h4, h5, h6⟩ := h.box hd hc hg hb
      refine ⟨blk, 0, fun i => arr.getD i Go.undef, by simp, h6, fun i hi => ?_, fun i hi => h5.2 i hi⟩
      rw [cell_of_heap h4]
      simp [h5.1, hi, Array.getD]
  | eptr cs' off' =>
    simp only [Sig.row] at hr
    simp only [Option.some.injEq, Prod.mk.injEq] at hr
    obtain ⟨rfl, rfl⟩ := hr
    obtain ⟨blk, o0, f, rfl, h1, h2, h3⟩ := hx.inv_eptr
    exact ⟨blk, o0, f, rfl, h1, fun i hi => h.rel.imm _ _ _ (h2 i hi), fun i hi => .cl (h3 i hi)⟩
  | _ => cases hr

theorem part_rel {cs : List AV} {off n : Nat} {agg : Bool} {v : AV} {f : Nat → Value} (hp : part agg n cs off = some v) (hcell : ∀ c, c ∈ cs → c.isCell = true)
    (hR : ∀ i (hi : i < cs.length), Rel G k nl cs[i] (f i)) :
    (agg = true ∧ off + n ≤ cs.length ∧ Rel G k nl v (.agg ((List.range n).map fun j => f (off + j)).toArray)) ∨ (agg = false ∧ off < cs.length ∧ Rel G k nl v (f off)) := by
  unfold part at hp
  split at hp
  · split at hp
    · rename_i hag hle
      injection hp with hp
      subst hp
      refine .inl ⟨hag, hle, .agg (by simp; omega) (fun c hc => hcell c (List.mem_of_mem_drop (List.mem_of_mem_take hc))) (fun i hi => ?_)⟩
      have hi' : i < n := by simp at hi; omega
      have : ((List.range n).map fun j => f (off + j)).toArray.getD i Go.undef = f (off + i) := by simp [Array.getD, hi']
      rw [this]
      have he : ((cs.drop off).take n)[i] = cs[off + i]'(by omega) := by simp
      rw [he]
      exact hR _ _
    · cases hp
  · rename_i hag
    obtain ⟨h1, h2⟩ := List.getElem?_eq_some_iff.1 hp
    exact .inr ⟨by simpa using hag, h1, h2 ▸ hR off h1⟩

theorem isAgg_run {t : TypeId} {g : Bool} (h : isAggP P t = some g) (w : World) : (isAgg t).run P w = .ok g w := by
  unfold isAggP at h
  cases hu : P.underlying t with
  | none => rw [hu] at h; cases h
  | some d =>
    rw [hu] at h
    simp only [Option.map_some, Option.some.injEq] at h
    subst h
    unfold isAgg
    simp only [Sem.run_bind, run_underlying hu, Result.andThen_ok]
    cases d <;> simp [pure]

theorem sizeOf_run {t : TypeId} {n : Nat} (h : sizeP P t = some n) (w : World) : (sizeOf t).run P w = .ok n w := by
  unfold sizeP at h
  cases hi : P.info? t with
  | none => rw [hi] at h; cases h
  | some i =>
    rw [hi] at h
    simp only [Option.map_some, Option.some.injEq] at h
    subst h
    simp [sizeOf, typeInfo, hi]

theorem load_sound (h : At P B0 w0 G k nl s w) {x v : AV} {y : Value} {agg : Bool} {n : Nat} {t : TypeId} (hx : Rel G k nl x y) (hl : s.load agg n x = some v) (ha : isAggP P t = some agg) (hn : sizeP P t = some n) :
    ∃ v', (Instr.loadAt t y).run P w = .ok v' w ∧ Rel G k nl v v' := by
  unfold Sig.load at hl
  cases hr : s.row x with
  | none => rw [hr] at hl; cases hl
  | some p =>
    obtain ⟨cs, off⟩ := p
    rw [hr] at hl
    simp only [Option.bind_some] at hl
    obtain ⟨blk, o0, f, rfl, hcell, hc, hR⟩ := h.row hx hr
    have hadd : ∀ j, off + j < cs.length → w.cell? ((⟨blk, o0 + off, none⟩ : Addr).add j) = some (f (off + j)) := fun j hj => by
      rw [addr_add, Nat.add_assoc]; exact hc _ hj
    rcases part_rel hl hcell hR with ⟨rfl, hle, hv⟩ | ⟨rfl, hlt, hv⟩
    · refine ⟨_, ?_, hv⟩
      have hlc := run_loadCells (P := P) w (⟨blk, o0 + off, none⟩ : Addr) n (fun j => f (off + j)) (fun j hj => hadd j (by omega))
      simp only [Instr.loadAt, Instr.sureAddr, loadVar, Sem.run_bind, Sem.run_pure, Result.andThen_ok, isAgg_run ha, sizeOf_run hn, if_true, hlc]
    · refine ⟨_, ?_, hv⟩
      have := hadd 0 (by omega)
      rw [addr_add] at this
      simp only [Nat.add_zero] at this
      simp only [Instr.loadAt, Instr.sureAddr, loadVar, Sem.run_bind, Sem.run_pure, Result.andThen_ok, isAgg_run ha, Bool.false_eq_true, if_false]
      simp [run_load, this]

/-! ### Stores into boxes -/

theorem modify_get {α : Type} (l : List α) (i j : Nat) (f : α → α) : (l.modify i f)[j]? = if i = j then (l[j]?).map f else l[j]? := by
  rw [List.getElem?_modify]
  split <;> simp_all

theorem SRel.setBox (h : SRel P B0 w0 G s w) {d b : Nat} {cs cs' : List AV} {r : Rec} {gr : GRec} {blk : Nat} {arr : Array Value} {ty : TypeId} {w' : World}
    (hr : s.acts[d]? = some r) (hg : G.acts[d]? = some gr) (hb : r.boxes[b]? = some cs) (hbl : gr.bl[b]? = some blk)
    (hcell : ∀ c, c ∈ cs' → c.isCell = true) (hR : Row2 (Rel G d gr.nl) cs' arr) (hw : w'.heap[blk]? = some (.cells arr ty)) (hother : ∀ c, c ≠ blk → w'.heap[c]? = w.heap[c]?)
    (hbelow : Below B0 w w') (hsz : w'.heap.size = w.heap.size) : SRel P B0 w0 G (s.setBox d b cs') w' := by
  have hbx := (h.rec_ d r gr hr hg).box b cs blk hb hbl
  have hk : KeepsOwn (· = .box d b) G w G w' := fun c o ho hne => by
    refine ⟨ho, hother c (fun e => ?_), fun _ e => e⟩
    subst e
    rw [hbx.2.1] at ho
    injection ho with ho
    exact hne ho.symm
  refine ⟨fun c i v e => ?_, by simp only [Sig.setBox, Sig.onRec, List.length_modify]; exact h.len, h.llen, fun d' r' gr' h1 h2 => ?_, fun l lp r' h1 h2 => ?_, h.nls, h.nlm, h.below.trans hbelow, by rw [hsz]; exact h.low, fun c o ho => by rw [hsz]; exact h.ownlt c o ho⟩
  · have hne : c ≠ blk := by
      rintro rfl
      rw [hbx.2.2.1] at e
      cases e
    rw [cells_congr (hother c hne) rfl]
    exact h.imm c i v e
  · simp only [Sig.setBox, Sig.onRec, modify_get] at h1
    by_cases hd : d = d'
    · subst hd
      rw [if_pos rfl, hr] at h1
      simp only [Option.map_some, Option.some.injEq] at h1
      rw [hg] at h2
      injection h2 with h2
      subst h1 h2
      have hrr := h.rec_ d r gr hr hg
      refine ⟨by simpa using hrr.blen, hrr.tlen, fun b' cs'' blk' e1 e2 => ?_, fun g n T e1 e2 => ?_, fun i b' e1 => ?_⟩
      · simp only [List.getElem?_set] at e1
        by_cases hbb : b = b'
        · subst hbb
          rw [hbl] at e2
          injection e2 with e2
          subst e2
          rw [if_pos rfl] at e1
          split at e1
          · injection e1 with e1
            subst e1
            refine ⟨hbx.1, hbx.2.1, hbx.2.2.1, arr, ty, hw, hR.1, fun i hi => ⟨hcell _ (List.getElem_mem hi), hR.2 i hi⟩⟩
          · cases e1
        · rw [if_neg hbb] at e1
          have hb' := hrr.box b' cs'' blk' e1 e2
          obtain ⟨k1, k2, k3⟩ := hk _ _ hb'.2.1 (fun e => by injection e with _ e; exact hbb e.symm)
          exact hb'.keep (GLe.refl _ _ _) k1 k2 k3
      · have ht := hrr.tok g n T e1 e2
        have hs : ∀ (hn : n.isSome = true), G.own T.blk = some (.tok d g) ∧ w'.heap[T.blk]? = w.heap[T.blk]? ∧ ∀ i, G.I T.blk i = none → G.I T.blk i = none := fun hn => by
          obtain ⟨m, hm⟩ := Option.isSome_iff_exists.1 hn
          exact hk _ _ (ht.2 m hm).2.1 (fun e => by cases e)
        exact ht.keep (fun hn => (hs hn).1) (fun hn => (hs hn).2.1) (fun hn => (hs hn).2.2)
      · have hm := hrr.mark i b' e1
        obtain ⟨k1, k2, _⟩ := hk _ _ hm.2.1 (fun e => by cases e)
        exact hm.keep k1 k2
    · rw [if_neg hd] at h1
      exact (h.rec_ d' r' gr' h1 h2).keep (GLe.refl _ _ _) hk (fun o ho => by
        subst ho
        refine ⟨fun b' e => ?_, fun g e => ?_, fun i e => ?_⟩
        · injection e with e
          exact hd e
        · cases e
        · cases e)
  · have hr' := h.loop l lp r' h1 h2
    obtain ⟨k1, k2, _⟩ := hk _ _ hr'.2.1 (fun e => by cases e)
    exact hr'.keep (fun _ _ _ _ => GLe.refl _ _ _) (Nat.le_refl _) k1 k2

theorem Rel.cells {y : AV} {v : Value} (h : Rel G k nl y v) (hc : y.cells.all AV.isCell = true) : Row2 (Rel G k nl) y.cells v.cells := by
  by_cases hy : ∃ cs, y = .agg cs
  · obtain ⟨cs, rfl⟩ := hy
    obtain ⟨arr, rfl, h1, _, h3⟩ := h.inv_agg
    exact ⟨h1, h3⟩
  · have he : y.cells = [y] := by
      unfold AV.cells
      split
      · exact absurd ⟨_, rfl⟩ hy
      · rfl
    rw [he] at hc ⊢
    have hone : y.isCell = true := by simpa using hc
    rw [h.one hone]
    refine ⟨rfl, fun i hi => ?_⟩
    have : i = 0 := by simp at hi; omega
    subst this
    exact h

theorem oneCell_of_rel {x : AV} {v : Value} (h : Rel G k nl x v) (hc : x.isCell = true) : v.oneCell' = true := by
  have := h.one hc
  cases v with
  | agg cs =>
    exfalso
    cases h with
    | cl h => cases h with
      | v h => simp [plain] at h
      | agg => cases hc
    | agg => cases hc
  | tuple vs =>
    exfalso
    cases h with
    | cl h => cases h with
      | v h => simp [plain] at h
    | undef => cases hc
    | tuple => cases hc
  | _ => rfl

/-- The store itself: into a box that is known. -/
theorem store_run {b : Nat} {arr : Array Value} {ty : TypeId} {off n : Nat} {t : TypeId} {v : Value} (hw : w.heap[b]? = some (.cells arr ty)) (hn : sizeP P t = some n) (hs : v.cells.size = n) (hle : off + n ≤ arr.size)
    (h1 : ∀ u, u ∈ v.cells.toList → u.oneCell' = true) : (Instr.storeAt t (.pointer (some ⟨b, off, none⟩)) v).run P w = .ok () (w.setCells b off v.cells.toList) := by
  have hst := run_storeCells_cells (P := P) b off v.cells.toList 0 w (fun j hj => by
      have hj' : j < n := by simpa [hs] using hj
      rw [cell_of_heap hw]
      simp; omega) (fun j _ => frozen_of_heap hw) h1
  simp only [Instr.storeAt, Instr.sureAddr, storeVar, Sem.run_bind, Sem.run_pure, Result.andThen_ok, sizeOf_run hn]
  rw [if_neg (by simp [hs])]
  simpa using hst

end
end Go.Ax
