/-
  Memory: loads, stores and new boxes.
-/
import Derived.Test.YtolmeamlfkbafaaT1
import Derived.Laws.IdiomCopy
import Derived.Laws.Cells
namespace Go.Ax
open Go.RowKit
section
variable {P : Program} {B0 : Nat} {w0 : World} {G : Ghost} {k nl : Nat} {w : World} {s : Sig}
def Row2 (R : AV → Value → Prop) (cs : List AV) (arr : Array Value) : Prop :=
 arr.size = cs.length ∧ ∀ i (hi : i < cs.length), R cs[i] (arr.getD i Go.undef)
theorem Row2.set {R : AV → Value → Prop} {cs : List AV} {arr : Array Value} (h : Row2 R cs arr) {x : AV} {v : Value} (hx : R x v) (o : Nat) : Row2 R (cs.set o x) (arr.setIfInBounds o v) := by
 refine ⟨by simp [h.1], fun i hi => ?_⟩
 have hi' : i < cs.length := by simpa using hi
 rw [List.getElem_set]
 by_cases ho : o = i
 ·subst ho
  rw [if_pos rfl]
  have : (arr.setIfInBounds o v).getD o Go.undef = v := by simp [Array.getD, h.1, hi']
  rw [this]
  exact hx
 ·rw [if_neg ho]
  have : (arr.setIfInBounds o v).getD i Go.undef = arr.getD i Go.undef := by
   simp [Array.getD, h.1, hi', ho]
  rw [this]
  exact h.2 i hi'
def setA (arr : Array Value) (o : Nat) : List Value → Array Value
 | [] => arr
 | v :: r => setA (arr.setIfInBounds o v) (o + 1) r
theorem setA_size (arr : Array Value) (o : Nat) (vs : List Value) : (setA arr o vs).size = arr.size := by
 induction vs generalizing arr o with
 | nil => rfl
 | cons v r ih => simp [setA, ih]
theorem Row2.setA {R : AV → Value → Prop} {xs : List AV} {vs : List Value} (hl : vs.length = xs.length) (hR : ∀ i (hi : i < xs.length) (hj : i < vs.length), R xs[i] vs[i]) :
  ∀ {cs : List AV} {arr : Array Value} (o : Nat), Row2 R cs arr → Row2 R (setCells cs o xs) (Ax.setA arr o vs) := by
 induction xs generalizing vs with
 | nil =>
  intro cs arr o h
  cases vs with
  | nil => exact h
  | cons v r => simp at hl
 | cons x xs ih =>
  intro cs arr o h
  cases vs with
  | nil => simp at hl
  | cons v r =>
   simp only [setCells, Ax.setA]
   exact ih (by simpa using hl) (fun i hi hj => hR (i + 1) (by simpa using hi) (by simpa using hj)) (o + 1) (h.set (hR 0 (by simp) (by simp)) o)
theorem Row2.mono {R R' : AV → Value → Prop} {cs : List AV} {arr : Array Value} (h : Row2 R cs arr) (hR : ∀ x v, R x v → R' x v) : Row2 R' cs arr := ⟨h.1, fun i hi => hR _ _ (h.2 i hi)⟩
def RowLe (R : AV → Value → Prop) (cs : List AV) (arr : Array Value) : Prop :=
 cs.length ≤ arr.size ∧ ∀ i (hi : i < cs.length), R cs[i] (arr.getD i Go.undef)
theorem RowLe.set {R : AV → Value → Prop} {cs : List AV} {arr : Array Value} (h : RowLe R cs arr) {x : AV} {v : Value} (hx : R x v) (o : Nat) : RowLe R (cs.set o x) (arr.setIfInBounds o v) := by
 refine ⟨by simpa using h.1, fun i hi => ?_⟩
 have hi' : i < cs.length := by simpa using hi
 have ha : i < arr.size := Nat.lt_of_lt_of_le hi' h.1
 rw [List.getElem_set]
 by_cases ho : o = i
 ·subst ho
  rw [if_pos rfl]
  have : (arr.setIfInBounds o v).getD o Go.undef = v := by simp [Array.getD, ha]
  rw [this]
  exact hx
 ·rw [if_neg ho]
  have : (arr.setIfInBounds o v).getD i Go.undef = arr.getD i Go.undef := by
   simp [Array.getD, ha, ho]
  rw [this]
  exact h.2 i hi'
theorem RowLe.setA {R : AV → Value → Prop} {xs : List AV} {vs : List Value} (hl : vs.length = xs.length) (hR : ∀ i (hi : i < xs.length) (hj : i < vs.length), R xs[i] vs[i]) :
  ∀ {cs : List AV} {arr : Array Value} (o : Nat), RowLe R cs arr → RowLe R (setCells cs o xs) (Ax.setA arr o vs) := by
 induction xs generalizing vs with
 | nil =>
  intro cs arr o h
  cases vs with
  | nil => exact h
  | cons v r => simp at hl
 | cons x xs ih =>
  intro cs arr o h
  cases vs with
  | nil => simp at hl
  | cons v r =>
   simp only [setCells, Ax.setA]
   exact ih (by simpa using hl) (fun i hi hj => hR (i + 1) (by simpa using hi) (by simpa using hj)) (o + 1) (h.set (hR 0 (by simp) (by simp)) o)
theorem RowLe.mono {R R' : AV → Value → Prop} {cs : List AV} {arr : Array Value} (h : RowLe R cs arr) (hR : ∀ x v, R x v → R' x v) : RowLe R' cs arr := ⟨h.1, fun i hi => hR _ _ (h.2 i hi)⟩
theorem Row2.le {R : AV → Value → Prop} {cs : List AV} {arr : Array Value} (h : Row2 R cs arr) : RowLe R cs arr := ⟨Nat.le_of_eq h.1.symm, h.2⟩
theorem setCells_length (cs : List AV) (o : Nat) (xs : List AV) : (setCells cs o xs).length = cs.length := by
 induction xs generalizing cs o with
 | nil => rfl
 | cons x r ih => simp [setCells, ih]
theorem setCells_mem {cs : List AV} {o : Nat} {xs : List AV} {c : AV} (h : c ∈ setCells cs o xs) : c ∈ cs ∨ c ∈ xs := by
 induction xs generalizing cs o with
 | nil => exact .inl h
 | cons x r ih =>
  rcases ih h with h | h
  ·rcases List.mem_or_eq_of_mem_set h with h | rfl
   ·exact .inl h
   ·exact .inr (by simp)
  ·exact .inr (by simp [h])
theorem heap_setCells {b : Nat} {ty : TypeId} : ∀ (vs : List Value) (o : Nat) (arr : Array Value) (w : World), w.heap[b]? = some (.cells arr ty) → (w.setCells b o vs).heap[b]? = some (.cells (setA arr o vs) ty)
 | [], _, _, _, h => h
 | v :: r, o, arr, w, h => by
  simp only [World.setCells, setA]
  refine heap_setCells r (o + 1) _ _ ?_
  simp [World.setCell, Array.getElem?_modify, h]
theorem heap_setCells_other {b c : Nat} (hc : c ≠ b) : ∀ (vs : List Value) (o : Nat) (w : World), (w.setCells b o vs).heap[c]? = w.heap[c]?
 | [], _, _ => rfl
 | v :: r, o, w => by
  simp only [World.setCells]
  rw [heap_setCells_other hc r (o + 1)]
  exact Below.heap_setCell _ _ _ _ hc
theorem size_setCells (b : Nat) : ∀ (vs : List Value) (o : Nat) (w : World), (w.setCells b o vs).heap.size = w.heap.size
 | [], _, _ => rfl
 | v :: r, o, w => by
  simp only [World.setCells]
  rw [size_setCells b r (o + 1)]
  simp [World.setCell]
theorem below_setCells {B b : Nat} (hb : B ≤ b) : ∀ (vs : List Value) (o : Nat) (w : World), Below B w (w.setCells b o vs)
 | [], _, w => Below.refl _ _
 | v :: r, o, w => by
  simp only [World.setCells]
  exact ((Below.refl B w).setCell (p := ⟨b, o, none⟩) hb v).trans (below_setCells hb r (o + 1) _)
theorem cell_of_heap {b i : Nat} {arr : Array Value} {ty : TypeId} {fz : Nat × Nat} (h : w.heap[b]? = some (.cells arr ty fz)) : w.cell? ⟨b, i, none⟩ = arr[i]? := by
 simp [World.cell?, h]
theorem frozen_of_heap {b i : Nat} {arr : Array Value} {ty : TypeId} (h : w.heap[b]? = some (.cells arr ty)) : w.frozen? ⟨b, i, none⟩ = false := by
 simp [World.frozen?, h]
theorem cells_congr {b c i : Nat} {w' : World} (h : w'.heap[b]? = w.heap[b]?) (hc : c = b) : w'.cell? ⟨c, i, none⟩ = w.cell? ⟨c, i, none⟩ := by
 subst hc
 simp [World.cell?, h]
structure At (P : Program) (B0 : Nat) (w0 : World) (G : Ghost) (k nl : Nat) (s : Sig) (w : World) : Prop where
 rel : SRel P B0 w0 G s w
 len : s.acts.length = k + 1
 cur : ∃ gr, G.acts[k]? = some gr ∧ gr.nl = nl
theorem At.cur_eq (h : At P B0 w0 G k nl s w) : s.cur = k := by simp [Sig.cur, h.len]
theorem At.nle (h : At P B0 w0 G k nl s w) : nl ≤ s.loops.length := by
 obtain ⟨gr, h1, rfl⟩ := h.cur
 exact h.rel.nls _ _ h1
theorem At.box (h : At P B0 w0 G k nl s w) {d b : Nat} {cs : List AV} {gr : GRec} {blk : Nat} (hd : d ≤ k) (hc : s.box d b = some cs) (hg : G.acts[d]? = some gr) (hb : gr.bl[b]? = some (some blk)) :
  ∃ r, s.acts[d]? = some r ∧ r.boxes[b]? = some cs ∧ BoxRel B0 G d gr.nl b (gr.gs b) cs blk w ∧
   ∃ arr ty, w.heap[blk]? = some (.cells arr ty) ∧ RowLe (Rel G k nl) cs arr ∧ ∀ c, c ∈ cs → c.isCell = true := by
 simp only [Sig.box] at hc
 cases hr : s.acts[d]? with
 | none => rw [hr] at hc; cases hc
 | some r =>
  rw [hr] at hc
  have hbx := (h.rel.rec_ d r gr hr hg).box b cs blk hc hb
  refine ⟨r, rfl, hc, hbx, ?_⟩
  obtain ⟨_, _, _, arr, ty, h4, h5, _, h6⟩ := hbx
  obtain ⟨gk, hgk, rfl⟩ := h.cur
  refine ⟨arr, ty, h4, ⟨h5, fun i hi => (h6 i hi).2.mono (GLe.refl _ _ _) hd (h.rel.nlm d k gr gk hd hg hgk)⟩, fun c hc' => ?_⟩
  obtain ⟨i, hi, rfl⟩ := List.getElem_of_mem hc'
  exact (h6 i hi).1
theorem addr_add (b o i : Nat) : (⟨b, o, none⟩ : Addr).add i = ⟨b, o + i, none⟩ := by
 unfold Addr.add
 split
 ·rename_i h; subst h; rfl
 ·rfl
theorem At.row (h : At P B0 w0 G k nl s w) {x : AV} {y : Value} {cs : List AV} {off : Nat} (hx : Rel G k nl x y) (hr : s.row x = some (cs, off)) :
  ∃ (blk o0 : Nat) (f : Nat → Value), y = .pointer (some ⟨blk, o0 + off, none⟩) ∧ (∀ c, c ∈ cs → c.isCell = true) ∧
   (∀ i, i < cs.length → w.cell? ⟨blk, o0 + i, none⟩ = some (f i)) ∧ ∀ i (hi : i < cs.length), Rel G k nl cs[i] (f i) := by
 cases x with
 | ptr d b off' =>
  simp only [Sig.row] at hr
  cases hc : s.box d b with
  | none => rw [hc] at hr; cases hr
  | some cs' =>
   rw [hc] at hr
   simp only [Option.map_some, Option.some.injEq, Prod.mk.injEq] at hr
   obtain ⟨rfl, rfl⟩ := hr
   obtain ⟨blk, gr, rfl, hd, hg, hb⟩ := hx.inv_ptr
   obtain ⟨r, _, _, _, arr, ty, h4, h5, h6⟩ := h.box hd hc hg hb
   refine ⟨blk, 0, fun i => arr.getD i Go.undef, by simp, h6, fun i hi => ?_, fun i hi => h5.2 i hi⟩
   rw [cell_of_heap h4]
   have := Nat.lt_of_lt_of_le hi h5.1
   simp [this, Array.getD]
 | eptr cs' off' =>
  simp only [Sig.row] at hr
  simp only [Option.some.injEq, Prod.mk.injEq] at hr
  obtain ⟨rfl, rfl⟩ := hr
  obtain ⟨blk, o0, f, rfl, h1, h2, h3⟩ := hx.inv_eptr
  exact ⟨blk, o0, f, rfl, h1, fun i hi => h.rel.imm _ _ _ (h2 i hi), fun i hi => .cl (h3 i hi)⟩
 | _ => cases hr
theorem part_rel {cs : List AV} {off n : Nat} {agg : Bool} {v : AV} {f : Nat → Value} (hp : part agg n cs off = some v) (hcell : ∀ c, c ∈ cs → c.isCell = true)
  (hR : ∀ i (hi : i < cs.length), Rel G k nl cs[i] (f i)) :
  (agg = true ∧ off + n ≤ cs.length ∧ Rel G k nl v (.agg ((List.range n).map fun j => f (off + j)).toArray)) ∨ (agg = false ∧ off < cs.length ∧ Rel G k nl v (f off)) := by
 unfold part at hp
 split at hp
 ·split at hp
  ·rename_i hag hle
   injection hp with hp
   subst hp
   refine .inl ⟨hag, hle, .agg (by simp; omega) (fun c hc => hcell c (List.mem_of_mem_drop (List.mem_of_mem_take hc))) (fun i hi => ?_)⟩
   have hi' : i < n := by simp at hi; omega
   have : ((List.range n).map fun j => f (off + j)).toArray.getD i Go.undef = f (off + i) := by simp [Array.getD, hi']
   rw [this]
   have he : ((cs.drop off).take n)[i] = cs[off + i]'(by omega) := by simp
   rw [he]
   exact hR _ _
  ·cases hp
 ·rename_i hag
  obtain ⟨h1, h2⟩ := List.getElem?_eq_some_iff.1 hp
  exact .inr ⟨by simpa using hag, h1, h2 ▸ hR off h1⟩
theorem isAgg_run {t : TypeId} {g : Bool} (h : isAggP P t = some g) (w : World) : (isAgg t).run P w = .ok g w := by
 unfold isAggP at h
 cases hu : P.underlying t with
 | none => rw [hu] at h; cases h
 | some d =>
  rw [hu] at h
  simp only [Option.map_some, Option.some.injEq] at h
  subst h
  unfold isAgg
  simp only [Sem.run_bind, run_underlying hu, Result.andThen_ok]
  cases d <;> simp [pure]
theorem sizeOf_run {t : TypeId} {n : Nat} (h : sizeP P t = some n) (w : World) : (sizeOf t).run P w = .ok n w := by
 unfold sizeP at h
 cases hi : P.info? t with
 | none => rw [hi] at h; cases h
 | some i =>
  rw [hi] at h
  simp only [Option.map_some, Option.some.injEq] at h
  subst h
  simp [sizeOf, typeInfo, hi]
theorem load_sound (h : At P B0 w0 G k nl s w) {x v : AV} {y : Value} {agg : Bool} {n : Nat} {t : TypeId} (hx : Rel G k nl x y) (hl : s.load agg n x = some v) (ha : isAggP P t = some agg) (hn : sizeP P t = some n) :
  ∃ v', (Instr.loadAt t y).run P w = .ok v' w ∧ Rel G k nl v v' := by
 unfold Sig.load at hl
 cases hr : s.row x with
 | none => rw [hr] at hl; cases hl
 | some p =>
  obtain ⟨cs, off⟩ := p
  rw [hr] at hl
  simp only [Option.bind_some] at hl
  obtain ⟨blk, o0, f, rfl, hcell, hc, hR⟩ := h.row hx hr
  have hadd : ∀ j, off + j < cs.length → w.cell? ((⟨blk, o0 + off, none⟩ : Addr).add j) = some (f (off + j)) := fun j hj => by
   rw [addr_add, Nat.add_assoc]; exact hc _ hj
  rcases part_rel hl hcell hR with ⟨rfl, hle, hv⟩ | ⟨rfl, hlt, hv⟩
  ·refine ⟨_, ?_, hv⟩
   have hlc := run_loadCells (P := P) w (⟨blk, o0 + off, none⟩ : Addr) n (fun j => f (off + j)) (fun j hj => hadd j (by omega))
   simp only [Instr.loadAt, Instr.sureAddr, loadVar, Sem.run_bind, Sem.run_pure, Result.andThen_ok, isAgg_run ha, sizeOf_run hn, if_true, hlc]
  ·refine ⟨_, ?_, hv⟩
   have := hadd 0 (by omega)
   rw [addr_add] at this
   simp only [Nat.add_zero] at this
   simp only [Instr.loadAt, Instr.sureAddr, loadVar, Sem.run_bind, Sem.run_pure, Result.andThen_ok, isAgg_run ha, Bool.false_eq_true, if_false]
   simp [run_load, this]
theorem modify_get {α : Type} (l : List α) (i j : Nat) (f : α → α) : (l.modify i f)[j]? = if i = j then (l[j]?).map f else l[j]? := by
 rw [List.getElem?_modify]
 split <;> simp_all
theorem SRel.setBox (h : SRel P B0 w0 G s w) {d b : Nat} {cs cs' : List AV} {r : Rec} {gr : GRec} {blk : Nat} {arr : Array Value} {ty : TypeId} {w' : World}
  (hr : s.acts[d]? = some r) (hg : G.acts[d]? = some gr) (hb : r.boxes[b]? = some cs) (hbl : gr.bl[b]? = some (some blk))
  (hne0 : cs ≠ []) (hne : cs' ≠ []) (hcell : ∀ c, c ∈ cs' → c.isCell = true) (hR : RowLe (Rel G d gr.nl) cs' arr) (hgs : ∀ n, gr.gs b = some n → arr.size = n) (hw : w'.heap[blk]? = some (.cells arr ty)) (hother : ∀ c, c ≠ blk → w'.heap[c]? = w.heap[c]?)
  (hbelow : Below B0 w w') (hsz : w'.heap.size = w.heap.size) : SRel P B0 w0 G (s.setBox d b cs') w' := by
 have hbx := (h.rec_ d r gr hr hg).box b cs blk hb hbl
 have hk : KeepsOwn (· = .box d b) G w G w' := fun c o ho hne => by
  refine ⟨ho, hother c (fun e => ?_), fun _ e => e⟩
  subst e
  obtain ⟨x, hx1, hx2⟩ := hbx.2.1
  rw [hx1, hx2 hne0] at ho
  injection ho with ho
  exact hne ho.symm
 refine ⟨fun c i v e => ?_, by simp only [Sig.setBox, Sig.onRec, List.length_modify]; exact h.len, h.llen, fun d' r' gr' h1 h2 => ?_, fun l lp r' h1 h2 => ?_, h.nls, h.nlm, h.below.trans hbelow, by rw [hsz]; exact h.low, fun c o ho => by rw [hsz]; exact h.ownlt c o ho⟩
 ·have hne : c ≠ blk := by
   rintro rfl
   rw [hbx.2.2.1 hne0] at e
   cases e
  rw [cells_congr (hother c hne) rfl]
  exact h.imm c i v e
 ·simp only [Sig.setBox, Sig.onRec, modify_get] at h1
  by_cases hd : d = d'
  ·subst hd
   rw [if_pos rfl, hr] at h1
   simp only [Option.map_some, Option.some.injEq] at h1
   rw [hg] at h2
   injection h2 with h2
   subst h1 h2
   have hrr := h.rec_ d r gr hr hg
   refine ⟨by simpa using hrr.blen, hrr.tlen, fun b' cs'' blk' e1 e2 => ?_, fun b' blk' e1 e2 => ?_, fun g n T e1 e2 => ?_, fun i b' e1 => ?_, hrr.gsl, fun b' blk' e1 => ?_⟩
   ·simp only [List.getElem?_set] at e1
    by_cases hbb : b = b'
    ·subst hbb
     rw [hbl] at e2
     injection e2 with e2
     injection e2 with e2
     subst e2
     rw [if_pos rfl] at e1
     split at e1
     ·injection e1 with e1
      subst e1
      obtain ⟨x, hx1, hx2⟩ := hbx.2.1
      refine ⟨hbx.1, ⟨x, hx1, fun _ => hx2 hne0⟩, fun _ => hbx.2.2.1 hne0, arr, ty, hw, hR.1, fun _ => hgs, fun i hi => ⟨hcell _ (List.getElem_mem hi), hR.2 i hi⟩⟩
     ·cases e1
    ·rw [if_neg hbb] at e1
     have hb' := hrr.box b' cs'' blk' e1 e2
     obtain ⟨x, hx1, hx2⟩ := hb'.2.1
     by_cases hxb : x = b
     · -- a dead box, whose block is this one's
      subst hxb
      have hnil : cs'' = [] := by
       apply Classical.byContradiction
       intro hn
       exact hbb (hx2 hn)
      subst hnil
      have hkk : blk' = blk ∨ blk' ≠ blk := by omega
      obtain ⟨q1, q2, q3, arr0, ty0, q4, q5, q6, q7⟩ := hb'
      rcases hkk with rfl | hkk
      ·exact ⟨q1, q2, q3, arr, ty, hw, Nat.zero_le _, fun hn => absurd rfl hn, fun i hi => absurd hi (Nat.not_lt_zero _)⟩
      ·exact ⟨q1, q2, q3, arr0, ty0, (hother _ hkk).trans q4, q5, q6, q7⟩
     ·obtain ⟨k1, k2, k3⟩ := hk _ _ hx1 (fun e => by injection e with _ e; exact hxb e)
      exact hb'.keep (GLe.refl _ _ _) (fun y e => e) k2 k3
   ·simp only [List.getElem?_set] at e2
    by_cases hbb : b = b'
    ·subst hbb
     rw [if_pos rfl] at e2
     split at e2
     ·injection e2 with e2
      exact absurd e2 hne
     ·cases e2
    ·rw [if_neg hbb] at e2
     have hf := hrr.full b' blk' e1 e2; exact ⟨hf.1, by simpa using hf.2⟩
   ·have ht := hrr.tok g n T e1 e2
    have hs : ∀ (hn : n.isSome = true), G.own T.blk = some (.tok d g) ∧ w'.heap[T.blk]? = w.heap[T.blk]? ∧ ∀ i, G.I T.blk i = none → G.I T.blk i = none := fun hn => by
     obtain ⟨m, hm⟩ := Option.isSome_iff_exists.1 hn
     exact hk _ _ (ht.2 m hm).2.1 (fun e => by cases e)
    exact ht.keep (fun hn => (hs hn).1) (fun hn => (hs hn).2.1) (fun hn => (hs hn).2.2)
   ·have hm := hrr.mark i b' e1
    obtain ⟨k1, k2, _⟩ := hk _ _ hm.2.1 (fun e => by cases e)
    exact hm.keep k1 k2
   ·obtain ⟨hb', cs2, h2, h3⟩ := hrr.mp b' blk' e1
    have hne' : b ≠ b' := by
     rintro rfl
     rw [hbl] at hb'; cases hb'
    exact ⟨hb', cs2, by simp only [List.getElem?_set]; rw [if_neg hne']; exact h2, h3.kept hk (fun e => by injection e with _ e; exact hne' e.symm)⟩
  ·rw [if_neg hd] at h1
   exact (h.rec_ d' r' gr' h1 h2).keep (GLe.refl _ _ _) hk (fun o ho => by
    subst ho
    refine ⟨fun b' e => ?_, fun g e => ?_, fun i e => ?_⟩
    ·injection e with e
     exact hd e
    ·cases e
    ·cases e)
 ·have hr' := h.loop l lp r' h1 h2
  obtain ⟨k1, k2, _⟩ := hk _ _ hr'.2.1 (fun e => by cases e)
  exact hr'.keep (fun _ _ _ _ => GLe.refl _ _ _) (Nat.le_refl _) k1 k2
theorem Rel.cells {y : AV} {v : Value} (h : Rel G k nl y v) (hc : y.cells.all AV.isCell = true) : Row2 (Rel G k nl) y.cells v.cells := by
 by_cases hy : ∃ cs, y = .agg cs
 ·obtain ⟨cs, rfl⟩ := hy
  obtain ⟨arr, rfl, h1, _, h3⟩ := h.inv_agg
  exact ⟨h1, h3⟩
 ·have he : y.cells = [y] := by
   unfold AV.cells
   split
   ·exact absurd ⟨_, rfl⟩ hy
   ·rfl
  rw [he] at hc ⊢
  have hone : y.isCell = true := by simpa using hc
  rw [h.one hone]
  refine ⟨rfl, fun i hi => ?_⟩
  have : i = 0 := by simp at hi; omega
  subst this
  exact h
theorem oneCell_of_rel {x : AV} {v : Value} (h : Rel G k nl x v) (hc : x.isCell = true) : v.oneCell' = true := by
 have := h.one hc
 cases v with
 | agg cs =>
  exfalso
  cases h with
  | cl h => cases h with
   | v h => simp [plain] at h
   | agg => cases hc
  | agg => cases hc
 | tuple vs =>
  exfalso
  cases h with
  | cl h => cases h with
   | v h => simp [plain] at h
  | undef => cases hc
  | tuple => cases hc
 | _ => rfl
theorem store_run {b : Nat} {arr : Array Value} {ty : TypeId} {off n : Nat} {t : TypeId} {v : Value} (hw : w.heap[b]? = some (.cells arr ty)) (hn : sizeP P t = some n) (hs : v.cells.size = n) (hle : off + n ≤ arr.size)
  (h1 : ∀ u, u ∈ v.cells.toList → u.oneCell' = true) : (Instr.storeAt t (.pointer (some ⟨b, off, none⟩)) v).run P w = .ok () (w.setCells b off v.cells.toList) := by
 have hst := run_storeCells_cells (P := P) b off v.cells.toList 0 w (fun j hj => by
   have hj' : j < n := by simpa [hs] using hj
   rw [cell_of_heap hw]
   simp; omega) (fun j _ => frozen_of_heap hw) h1
 simp only [Instr.storeAt, Instr.sureAddr, storeVar, Sem.run_bind, Sem.run_pure, Result.andThen_ok, sizeOf_run hn]
 rw [if_neg (by simp [hs])]
 simpa using hst
end
end Go.Ax

/-
  Memory: an activation's record is changed; new boxes; rights to append are made, moved and dropped.
-/
namespace Go.Ax
open Go.RowKit
section
variable {P : Program} {B0 : Nat} {w0 : World} {G G' : Ghost} {k nl : Nat} {w w' : World} {s : Sig}
theorem SRel.onRec (h : SRel P B0 w0 G s w) {d0 : Nat} {r0 : Rec} {gr0 : GRec} (hr : s.acts[d0]? = some r0) (hg : G.acts[d0]? = some gr0) (f : Rec → Rec) (gf : GRec → GRec) (X : Owner → Prop)
  (hG : G'.acts = G.acts.modify d0 gf) (hL : G'.loops = G.loops) (hI : ∀ b i v, G.I b i = some v → G'.I b i = some v) (hle0 : RecLe gr0 (gf gr0)) (hm0 : (gf gr0).marks = gr0.marks)
  (hk : KeepsOwn X G w G' w') (hX : ∀ o, X o → (∃ b, o = .box d0 b) ∨ ∃ g, o = .tok d0 g) (hrec0 : RecRel B0 G' d0 (f r0) (gf gr0) w')
  (him : ∀ b i v, G'.I b i = some v → w'.cell? ⟨b, i, none⟩ = some v) (hb : Below B0 w w') (hol : ∀ b o, G'.own b = some o → b < w'.heap.size) :
  SRel P B0 w0 G' (s.onRec d0 f) w' ∧ ∀ k nl, GLe k nl G G' := by
 have hle : ∀ k nl, GLe k nl G G' := fun k nl => ⟨hI, fun d gr _ e => by
  rw [hG, modify_get]
  by_cases hd : d0 = d
  ·subst hd
   rw [hg] at e
   injection e with e
   subst e
   exact ⟨_, by rw [if_pos rfl, hg]; rfl, hle0, fun _ => hm0⟩
  ·exact ⟨gr, by rw [if_neg hd]; exact e, .refl gr, fun _ => rfl⟩, fun l r _ e => by rw [hL]; exact e⟩
 have hback : ∀ (d : Nat) (gr' : GRec), G'.acts[d]? = some gr' → ∃ gr : GRec, G.acts[d]? = some gr ∧ gr'.nl = gr.nl := fun d gr' e => by
  rw [hG, modify_get] at e
  by_cases hd : d0 = d
  ·subst hd
   rw [if_pos rfl, hg] at e
   simp only [Option.map_some, Option.some.injEq] at e
   subst e
   exact ⟨gr0, hg, hle0.nl⟩
  ·rw [if_neg hd] at e
   exact ⟨gr', e, rfl⟩
 refine ⟨⟨him, by simp only [hG, Sig.onRec, List.length_modify]; exact h.len, by rw [hL]; exact h.llen, fun d r gr h1 h2 => ?_, fun l lp r h1 h2 => ?_, fun d gr e => ?_, fun d d' gr gr' hd e e' => ?_, h.below.trans hb, Nat.le_trans h.low hb.size, hol⟩, hle⟩
 ·simp only [Sig.onRec, modify_get] at h1
  rw [hG, modify_get] at h2
  by_cases hd : d0 = d
  ·subst hd
   rw [if_pos rfl, hr] at h1
   rw [if_pos rfl, hg] at h2
   simp only [Option.map_some, Option.some.injEq] at h1 h2
   subst h1 h2
   exact hrec0
  ·rw [if_neg hd] at h1 h2
   refine (h.rec_ d r gr h1 h2).keep (hle _ _) hk (fun o ho => ?_)
   rcases hX o ho with ⟨b, rfl⟩ | ⟨g, rfl⟩
   ·refine ⟨fun b' e => ?_, fun g e => ?_, fun i e => ?_⟩
    ·injection e with e; exact hd e
    ·cases e
    ·cases e
   ·refine ⟨fun b' e => ?_, fun g e => ?_, fun i e => ?_⟩
    ·cases e
    ·injection e with e; exact hd e
    ·cases e
 ·rw [hL] at h2
  have hr' := h.loop l lp r h1 h2
  obtain ⟨k1, k2, _⟩ := hk _ _ hr'.2.1 (fun hx => by rcases hX _ hx with ⟨b, e⟩ | ⟨g, e⟩ <;> cases e)
  exact hr'.keep (fun k nl _ _ => hle k nl) (by rw [hG, List.length_modify]; exact Nat.le_refl _) k1 k2
 ·obtain ⟨gr0', e0, e1⟩ := hback d gr e
  rw [e1]
  exact h.nls d gr0' e0
 ·obtain ⟨a, e0, e1⟩ := hback d gr e
  obtain ⟨b, e2, e3⟩ := hback d' gr' e'
  rw [e1, e3]
  exact h.nlm d d' a b hd e0 e2
def StepTo (P : Program) (B0 : Nat) (w0 : World) (G : Ghost) (k nl : Nat) (s s' : Sig) (w' : World) (x : AV) (x' : Value) : Prop :=
 ∃ G', At P B0 w0 G' k nl s' w' ∧ GLe (k + 1) s.loops.length G G' ∧ s'.loops.length = s.loops.length ∧ Rel G' k nl x x'
theorem At.to {G' : Ghost} {s' : Sig} (h : At P B0 w0 G k nl s w) (hr : SRel P B0 w0 G' s' w') (hle : GLe k nl G G') (hl : s'.acts.length = s.acts.length) : At P B0 w0 G' k nl s' w' := by
 obtain ⟨gr, h1, h2⟩ := h.cur
 obtain ⟨gr', h3, h4, _⟩ := hle.acts k gr (Nat.le_refl _) h1
 exact ⟨hr, hl.trans h.len, gr', h3, h4.nl.trans h2⟩
theorem At.rec_ (h : At P B0 w0 G k nl s w) {d : Nat} (hd : d ≤ k) : ∃ r gr, s.acts[d]? = some r ∧ G.acts[d]? = some gr := by
 have h1 : d < s.acts.length := by rw [h.len]; omega
 have h2 : d < G.acts.length := by rw [h.rel.len]; exact h1
 exact ⟨_, _, List.getElem?_eq_getElem h1, List.getElem?_eq_getElem h2⟩
theorem get_push {α : Type} {l : List α} {b : Nat} {x y : α} (h : (l ++ [x])[b]? = some y) : (b < l.length ∧ l[b]? = some y) ∨ (b = l.length ∧ y = x) := by
 rcases Nat.lt_or_ge b l.length with hb | hb
 ·rw [List.getElem?_append_left hb] at h; exact .inl ⟨hb, h⟩
 ·rw [List.getElem?_append_right hb] at h
  have : b - l.length = 0 := by
   have := (List.getElem?_eq_some_iff.1 h).1
   simp at this; omega
  rw [this] at h
  simp at h
  exact .inr ⟨by omega, h.symm⟩
theorem get_old {α : Type} {l : List α} {b : Nat} {x y : α} (h : l[b]? = some y) : (l ++ [x])[b]? = some y := by
 rw [List.getElem?_append_left (List.getElem?_eq_some_iff.1 h).1]; exact h
theorem newBox_sound (h : At P B0 w0 G k nl s w) {cs : List AV} {arr : Array Value} (ty : TypeId) (z : Option Nat) (hz : ∀ n, z = some n → arr.size = n) (hne : cs ≠ []) (hcell : ∀ c, c ∈ cs → c.isCell = true) (hR : RowLe (Rel G k nl) cs arr) :
  StepTo P B0 w0 G k nl s (s.newBox cs).2 (w.alloc (.cells arr ty)) (s.newBox cs).1 (.pointer (some ⟨w.heap.size, 0, none⟩)) ∧
  StepTo P B0 w0 G k nl s (s.newBox cs).2 (w.alloc (.cells arr ty)) (.rsl s.cur (s.nbox s.cur) 0 0 0 0) (.slice (some ⟨w.heap.size, 0, none⟩) 0 0) ∧
  ∀ es n cap rc, n ≤ rc → cap ≤ rc → (cap = 0 → 0 < n → z = some (rc * es)) → StepTo P B0 w0 G k nl s (s.newBox cs).2 (w.alloc (.cells arr ty)) (.rsl s.cur (s.nbox s.cur) 0 es n cap) (.slice (some ⟨w.heap.size, 0, none⟩) n rc) := by
 obtain ⟨r, gr, hr, hg⟩ := h.rec_ (Nat.le_refl k)
 have hnl : gr.nl = nl := by obtain ⟨g', e1, e2⟩ := h.cur; rw [hg] at e1; injection e1 with e1; rw [e1]; exact e2
 have hrr := h.rel.rec_ k r gr hr hg
 let G' : Ghost := { G with acts := G.acts.modify k fun q => { q with bl := q.bl ++ [some w.heap.size], gs := fun b => if b = r.boxes.length then z else q.gs b }, own := fun b => if b = w.heap.size then some (.box k r.boxes.length) else G.own b }
 have hk : KeepsOwn (fun _ => False) G w G' (w.alloc (.cells arr ty)) := fun b o e _ => by
  have hlt := h.rel.ownlt b o e
  exact ⟨by simp only [G']; rw [if_neg (by omega)]; exact e, Below.heap_alloc _ _ _ hlt, fun _ e => e⟩
 have hle0 : RecLe gr { gr with bl := gr.bl ++ [some w.heap.size], gs := fun b => if b = r.boxes.length then z else gr.gs b } := ⟨fun b blk e => get_old e, fun g T e => ⟨T, e, .refl T⟩, rfl, fun b n e => by
  obtain ⟨blk, hb⟩ := hrr.gsl b n e
  have := (List.getElem?_eq_some_iff.1 hb).1
  rw [hrr.blen] at this
  simp only
  rw [if_neg (by omega)]; exact e, fun _ _ e => e⟩
 have hnew : (w.alloc (.cells arr ty)).heap[w.heap.size]? = some (.cells arr ty) := World.alloc_heap_new w _
 have hle : GLe k nl G G' := ⟨fun _ _ _ e => e, fun d q _ e => by
  simp only [G', modify_get]
  by_cases hd : k = d
  ·subst hd
   rw [hg] at e
   injection e with e
   subst e
   exact ⟨_, by rw [if_pos rfl, hg]; rfl, hle0, fun _ => rfl⟩
  ·exact ⟨q, by rw [if_neg hd]; exact e, .refl q, fun _ => rfl⟩, fun _ _ _ e => e⟩
 have hstep := h.rel.onRec (G' := G') (w' := w.alloc (.cells arr ty)) hr hg (fun r => { r with boxes := r.boxes ++ [cs] }) (fun q => { q with bl := q.bl ++ [some w.heap.size], gs := fun b => if b = r.boxes.length then z else q.gs b }) (fun _ => False) rfl rfl (fun _ _ _ e => e) hle0 rfl hk
  (fun o ho => ho.elim) ?_ (fun b i v e => ?_) ((Below.refl _ _).alloc h.rel.low _) (fun b o e => ?_)
 ·obtain ⟨hs, hle'⟩ := hstep
  have hs' : SRel P B0 w0 G' (s.newBox cs).2 (w.alloc (.cells arr ty)) := by
   simp only [Sig.newBox, h.cur_eq, Sig.addBox]
   exact hs
  have hlen : (s.newBox cs).2.acts.length = s.acts.length := by simp [Sig.newBox, Sig.addBox, Sig.onRec]
  have hat := h.to hs' hle hlen
  have hnb : s.nbox s.cur = r.boxes.length := by simp [Sig.nbox, h.cur_eq, hr]
  have hga : G'.acts[k]? = some { gr with bl := gr.bl ++ [some w.heap.size], gs := fun b => if b = r.boxes.length then z else gr.gs b } := by
   show (G.acts.modify k _)[k]? = _
   rw [modify_get, if_pos rfl, hg]; rfl
  have hgb : ({ gr with bl := gr.bl ++ [some w.heap.size], gs := fun b => if b = r.boxes.length then z else gr.gs b } : GRec).bl[r.boxes.length]? = some (some w.heap.size) := by
   show (gr.bl ++ [some w.heap.size])[r.boxes.length]? = _
   rw [← hrr.blen, List.getElem?_append_right (Nat.le_refl _)]
   simp
  have hll : (s.newBox cs).2.loops.length = s.loops.length := by simp [Sig.newBox, Sig.addBox, Sig.onRec]
  refine ⟨⟨G', hat, hle' _ _, hll, ?_⟩, ⟨G', hat, hle' _ _, hll, ?_⟩, fun es n cap rc hn hc hw => ⟨G', hat, hle' _ _, hll, ?_⟩⟩
  ·simp only [Sig.newBox, h.cur_eq]
   rw [h.cur_eq] at hnb
   rw [hnb]
   exact .ptr _ (Nat.le_refl _) hga hgb
  ·rw [hnb, h.cur_eq]
   exact .rsl _ (Nat.le_refl _) hga hgb (Nat.le_refl _) (Nat.le_refl _) (fun _ h => absurd h (Nat.lt_irrefl _)) (fun _ => rfl)
  ·rw [hnb, h.cur_eq]
   exact .rsl _ (Nat.le_refl _) hga hgb hn hc (fun e1 e2 => by simp only; rw [if_pos trivial]; exact hw e1 e2) (fun _ => rfl)
 ·refine ⟨by simp [hrr.blen], hrr.tlen, fun b cs' blk e1 e2 => ?_, fun b blk e1 e2 => ?_, fun g n T e1 e2 => ?_, fun i b e1 => ?_, fun b n e1 => ?_, fun b blk2 e1 => ?_⟩
  ·rcases get_push e1 with ⟨hb, e1⟩ | ⟨hb, rfl⟩
   ·have e2' : gr.bl[b]? = some (some blk) := by
     rcases get_push e2 with ⟨_, e2⟩ | ⟨hb', _⟩
     ·exact e2
     ·rw [hrr.blen] at hb'; omega
    have hbx := (hrr.box b cs' blk e1 e2').kept (by rw [hnl]; exact hle) hk (fun _ x => x)
    show BoxRel B0 G' k gr.nl b (if b = r.boxes.length then z else gr.gs b) cs' blk _
    rw [if_neg (by omega)]; exact hbx
   ·have : blk = w.heap.size := by
     rcases get_push e2 with ⟨hb', _⟩ | ⟨_, e⟩
     ·rw [hrr.blen] at hb'; omega
     ·injection e
    subst this
    subst hb
    refine ⟨h.rel.low, ⟨_, by simp [G'], fun _ => rfl⟩, fun _ => h.rel.I_new, arr, ty, hnew, hR.1, fun _ n hn => hz n (by simpa using hn), fun i hi => ⟨hcell _ (List.getElem_mem hi), ?_⟩⟩
    have := (hR.2 i hi).mono hle (Nat.le_refl _) (Nat.le_refl _)
    show Rel G' k gr.nl _ _
    rw [hnl]
    exact this
  ·rcases get_push e2 with ⟨hb, e2⟩ | ⟨hb, e2⟩
   ·have e1' : gr.bl[b]? = some (some blk) := by
     rcases get_push e1 with ⟨_, e1⟩ | ⟨hb', _⟩
     ·exact e1
     ·rw [hrr.blen] at hb'; omega
    have hf := hrr.full b blk e1' e2; exact ⟨hf.1, by have := hf.2; simp; omega⟩
   ·exact absurd e2.symm hne
  ·have ht := hrr.tok g n T e1 e2
   have hs : ∀ (hn : n.isSome = true), G'.own T.blk = some (.tok k g) ∧ (w.alloc (.cells arr ty)).heap[T.blk]? = w.heap[T.blk]? ∧ ∀ i, G.I T.blk i = none → G'.I T.blk i = none := fun hn => by
    obtain ⟨m, hm⟩ := Option.isSome_iff_exists.1 hn
    exact hk _ _ (ht.2 m hm).2.1 (fun x => x)
   exact ht.keep (fun hn => (hs hn).1) (fun hn => (hs hn).2.1) (fun hn => (hs hn).2.2)
  ·have hm := hrr.mark i b e1
   obtain ⟨k1, k2, _⟩ := hk _ _ hm.2.1 (fun x => x)
   exact hm.keep k1 k2
  ·simp only at e1
   split at e1
   ·rename_i hb
    subst hb
    refine ⟨w.heap.size, ?_⟩
    rw [← hrr.blen, List.getElem?_append_right (Nat.le_refl _)]
    simp
   ·obtain ⟨blk, hb⟩ := hrr.gsl b n e1
    exact ⟨blk, get_old hb⟩
  ·obtain ⟨hb', cs2, h2, h3⟩ := hrr.mp b blk2 e1
   exact ⟨get_old hb', cs2, get_old h2, h3.kept hk fun x => x⟩
 ·have hlt := h.rel.I_lt e
  rw [World.cell?_alloc_lt _ _ _ (by exact hlt)]
  exact h.rel.imm b i v e
 ·simp only [G'] at e
  split at e
  ·rename_i hb; subst hb; simp
  ·have := h.rel.ownlt b o e; simp; omega
theorem newBoxAt_sound (h : At P B0 w0 G k nl s w) {d : Nat} {gr : GRec} (hd : d ≤ k) (hg : G.acts[d]? = some gr) {cs : List AV} {arr : Array Value} (ty : TypeId) (z : Option Nat) (hz : ∀ n, z = some n → arr.size = n) (hne : cs ≠ []) (hcell : ∀ c, c ∈ cs → c.isCell = true) (hR : RowLe (Rel G d gr.nl) cs arr) :
  ∀ es n cap rc, n ≤ rc → cap ≤ rc → (cap = 0 → 0 < n → z = some (rc * es)) → StepTo P B0 w0 G k nl s (s.addBox d cs) (w.alloc (.cells arr ty)) (.rsl d (s.nbox d) 0 es n cap) (.slice (some ⟨w.heap.size, 0, none⟩) n rc) := by
 obtain ⟨r, gr', hr, hg'⟩ := h.rec_ hd
 rw [hg] at hg'
 injection hg' with hg'
 subst hg'
 have hrr := h.rel.rec_ d r gr hr hg
 let G' : Ghost := { G with acts := G.acts.modify d fun q => { q with bl := q.bl ++ [some w.heap.size], gs := fun b => if b = r.boxes.length then z else q.gs b }, own := fun b => if b = w.heap.size then some (.box d r.boxes.length) else G.own b }
 have hk : KeepsOwn (fun _ => False) G w G' (w.alloc (.cells arr ty)) := fun b o e _ => by
  have hlt := h.rel.ownlt b o e
  exact ⟨by simp only [G']; rw [if_neg (by omega)]; exact e, Below.heap_alloc _ _ _ hlt, fun _ e => e⟩
 have hle0 : RecLe gr { gr with bl := gr.bl ++ [some w.heap.size], gs := fun b => if b = r.boxes.length then z else gr.gs b } := ⟨fun b blk e => get_old e, fun g T e => ⟨T, e, .refl T⟩, rfl, fun b n e => by
  obtain ⟨blk, hb⟩ := hrr.gsl b n e
  have := (List.getElem?_eq_some_iff.1 hb).1
  rw [hrr.blen] at this
  simp only
  rw [if_neg (by omega)]; exact e, fun _ _ e => e⟩
 have hnew : (w.alloc (.cells arr ty)).heap[w.heap.size]? = some (.cells arr ty) := World.alloc_heap_new w _
 have hle : GLe d gr.nl G G' := ⟨fun _ _ _ e => e, fun d' q _ e => by
  simp only [G', modify_get]
  by_cases hd : d = d'
  ·subst hd
   rw [hg] at e
   injection e with e
   subst e
   exact ⟨_, by rw [if_pos rfl, hg]; rfl, hle0, fun _ => rfl⟩
  ·exact ⟨q, by rw [if_neg hd]; exact e, .refl q, fun _ => rfl⟩, fun _ _ _ e => e⟩
 have hstep := h.rel.onRec (G' := G') (w' := w.alloc (.cells arr ty)) hr hg (fun r => { r with boxes := r.boxes ++ [cs] }) (fun q => { q with bl := q.bl ++ [some w.heap.size], gs := fun b => if b = r.boxes.length then z else q.gs b }) (fun _ => False) rfl rfl (fun _ _ _ e => e) hle0 rfl hk
  (fun o ho => ho.elim) ?_ (fun b i v e => ?_) ((Below.refl _ _).alloc h.rel.low _) (fun b o e => ?_)
 ·obtain ⟨hs, hle'⟩ := hstep
  have hs' : SRel P B0 w0 G' (s.addBox d cs) (w.alloc (.cells arr ty)) := hs
  have hlen : (s.addBox d cs).acts.length = s.acts.length := by simp [Sig.addBox, Sig.onRec]
  have hat := h.to hs' (hle' k nl) hlen
  have hnb : s.nbox d = r.boxes.length := by simp [Sig.nbox, hr]
  have hga : G'.acts[d]? = some { gr with bl := gr.bl ++ [some w.heap.size], gs := fun b => if b = r.boxes.length then z else gr.gs b } := by
   show (G.acts.modify d _)[d]? = _
   rw [modify_get, if_pos rfl, hg]; rfl
  have hgb : ({ gr with bl := gr.bl ++ [some w.heap.size], gs := fun b => if b = r.boxes.length then z else gr.gs b } : GRec).bl[r.boxes.length]? = some (some w.heap.size) := by
   show (gr.bl ++ [some w.heap.size])[r.boxes.length]? = _
   rw [← hrr.blen, List.getElem?_append_right (Nat.le_refl _)]
   simp
  have hll : (s.addBox d cs).loops.length = s.loops.length := by simp [Sig.addBox, Sig.onRec]
  refine fun es n cap rc hn hc hw => ⟨G', hat, hle' _ _, hll, ?_⟩
  rw [hnb]
  exact .rsl _ hd hga hgb hn hc (fun e1 e2 => by simp only; rw [if_pos trivial]; exact hw e1 e2) (fun _ => rfl)
 ·refine ⟨by simp [hrr.blen], hrr.tlen, fun b cs' blk e1 e2 => ?_, fun b blk e1 e2 => ?_, fun g n T e1 e2 => ?_, fun i b e1 => ?_, fun b n e1 => ?_, fun b blk2 e1 => ?_⟩
  ·rcases get_push e1 with ⟨hb, e1⟩ | ⟨hb, rfl⟩
   ·have e2' : gr.bl[b]? = some (some blk) := by
     rcases get_push e2 with ⟨_, e2⟩ | ⟨hb', _⟩
     ·exact e2
     ·rw [hrr.blen] at hb'; omega
    have hbx := (hrr.box b cs' blk e1 e2').kept hle hk (fun _ x => x)
    show BoxRel B0 G' d gr.nl b (if b = r.boxes.length then z else gr.gs b) cs' blk _
    rw [if_neg (by omega)]; exact hbx
   ·have : blk = w.heap.size := by
     rcases get_push e2 with ⟨hb', _⟩ | ⟨_, e⟩
     ·rw [hrr.blen] at hb'; omega
     ·injection e
    subst this
    subst hb
    refine ⟨h.rel.low, ⟨_, by simp [G'], fun _ => rfl⟩, fun _ => h.rel.I_new, arr, ty, hnew, hR.1, fun _ n hn => hz n (by simpa using hn), fun i hi => ⟨hcell _ (List.getElem_mem hi), ?_⟩⟩
    have := (hR.2 i hi).mono hle (Nat.le_refl _) (Nat.le_refl _)
    exact this
  ·rcases get_push e2 with ⟨hb, e2⟩ | ⟨hb, e2⟩
   ·have e1' : gr.bl[b]? = some (some blk) := by
     rcases get_push e1 with ⟨_, e1⟩ | ⟨hb', _⟩
     ·exact e1
     ·rw [hrr.blen] at hb'; omega
    have hf := hrr.full b blk e1' e2; exact ⟨hf.1, by have := hf.2; simp; omega⟩
   ·exact absurd e2.symm hne
  ·have ht := hrr.tok g n T e1 e2
   have hs : ∀ (hn : n.isSome = true), G'.own T.blk = some (.tok d g) ∧ (w.alloc (.cells arr ty)).heap[T.blk]? = w.heap[T.blk]? ∧ ∀ i, G.I T.blk i = none → G'.I T.blk i = none := fun hn => by
    obtain ⟨m, hm⟩ := Option.isSome_iff_exists.1 hn
    exact hk _ _ (ht.2 m hm).2.1 (fun x => x)
   exact ht.keep (fun hn => (hs hn).1) (fun hn => (hs hn).2.1) (fun hn => (hs hn).2.2)
  ·have hm := hrr.mark i b e1
   obtain ⟨k1, k2, _⟩ := hk _ _ hm.2.1 (fun x => x)
   exact hm.keep k1 k2
  ·simp only at e1
   split at e1
   ·rename_i hb
    subst hb
    refine ⟨w.heap.size, ?_⟩
    rw [← hrr.blen, List.getElem?_append_right (Nat.le_refl _)]
    simp
   ·obtain ⟨blk, hb⟩ := hrr.gsl b n e1
    exact ⟨blk, get_old hb⟩
  ·obtain ⟨hb', cs2, h2, h3⟩ := hrr.mp b blk2 e1
   exact ⟨get_old hb', cs2, get_old h2, h3.kept hk fun x => x⟩
 ·have hlt := h.rel.I_lt e
  rw [World.cell?_alloc_lt _ _ _ (by exact hlt)]
  exact h.rel.imm b i v e
 ·simp only [G'] at e
  split at e
  ·rename_i hb; subst hb; simp
  ·have := h.rel.ownlt b o e; simp; omega
theorem addBox_free (h : SRel P B0 w0 G s w) {d : Nat} {r : Rec} {gr : GRec} {blk : Nat} {cs : List AV} {arr : Array Value} {ty : TypeId} {z : Option Nat} (hr : s.acts[d]? = some r) (hg : G.acts[d]? = some gr) (hfree : G.own blk = none) (hI : ∀ i, G.I blk i = none)
  (hB : B0 ≤ blk) (hw : w.heap[blk]? = some (.cells arr ty)) (hne : cs ≠ []) (hcell : ∀ c, c ∈ cs → c.isCell = true) (hle : cs.length ≤ arr.size) (hR : ∀ i (hi : i < cs.length), RelC G.I cs[i] (arr.getD i Go.undef)) (hz : ∀ n, z = some n → arr.size = n) :
  ∃ G', G'.acts = G.acts.modify d (fun q => { q with bl := q.bl ++ [some blk], gs := fun b => if b = r.boxes.length then z else q.gs b }) ∧ G'.I = G.I ∧ SRel P B0 w0 G' (s.addBox d cs) w ∧ (∀ k nl, GLe k nl G G') ∧
   ∃ g2, G'.acts[d]? = some g2 ∧ g2.bl[r.boxes.length]? = some (some blk) ∧ g2.gs r.boxes.length = z := by
 have hrr := h.rec_ d r gr hr hg
 let gf : GRec → GRec := fun q => { q with bl := q.bl ++ [some blk], gs := fun b => if b = r.boxes.length then z else q.gs b }
 let G' : Ghost := { G with acts := G.acts.modify d gf, own := fun b => if b = blk then some (.box d r.boxes.length) else G.own b }
 have hk : KeepsOwn (fun _ => False) G w G' w := fun b o e _ => by
  refine ⟨?_, rfl, fun _ e => e⟩
  simp only [G']
  rw [if_neg (by rintro rfl; rw [hfree] at e; cases e)]
  exact e
 have hle0 : RecLe gr (gf gr) := ⟨fun b blk e => get_old e, fun g T e => ⟨T, e, .refl T⟩, rfl, fun b n e => by
  obtain ⟨q, hb⟩ := hrr.gsl b n e
  have := (List.getElem?_eq_some_iff.1 hb).1
  rw [hrr.blen] at this
  simp only [gf]
  rw [if_neg (by omega)]; exact e, fun _ _ e => e⟩
 have hgle : GLe d gr.nl G G' := ⟨fun _ _ _ e => e, fun d' q _ e => by
  simp only [G', modify_get]
  by_cases hd : d = d'
  ·subst hd
   rw [hg] at e
   injection e with e
   subst e
   exact ⟨_, by rw [if_pos rfl, hg]; rfl, hle0, fun _ => rfl⟩
  ·exact ⟨q, by rw [if_neg hd]; exact e, .refl q, fun _ => rfl⟩, fun _ _ _ e => e⟩
 have hstep := h.onRec (G' := G') (w' := w) hr hg (fun r => { r with boxes := r.boxes ++ [cs] }) gf (fun _ => False) rfl rfl (fun _ _ _ e => e) hle0 rfl hk (fun o ho => ho.elim) ?_ h.imm (Below.refl _ _) (fun b o e => ?_)
 ·refine ⟨G', rfl, rfl, hstep.1, hstep.2, gf gr, ?_, ?_, ?_⟩
  ·show (G.acts.modify d gf)[d]? = _
   rw [modify_get, if_pos rfl, hg]; rfl
  ·show (gr.bl ++ [some blk])[r.boxes.length]? = _
   rw [← hrr.blen, List.getElem?_append_right (Nat.le_refl _)]
   simp
  ·simp [gf]
 ·refine ⟨by simp [gf, hrr.blen], hrr.tlen, fun b cs' bk e1 e2 => ?_, fun b bk e1 e2 => ?_, fun g n T e1 e2 => ?_, fun i b e1 => ?_, fun b n e1 => ?_, fun b blk2 e1 => ?_⟩
  ·rcases get_push e1 with ⟨hb, e1⟩ | ⟨hb, rfl⟩
   ·have e2' : gr.bl[b]? = some (some bk) := by
     rcases get_push e2 with ⟨_, e2⟩ | ⟨hb', _⟩
     ·exact e2
     ·rw [hrr.blen] at hb'; omega
    have hbx := (hrr.box b cs' bk e1 e2').kept hgle hk (fun _ x => x)
    show BoxRel B0 G' d gr.nl b (if b = r.boxes.length then z else gr.gs b) cs' bk _
    rw [if_neg (by omega)]; exact hbx
   ·have : bk = blk := by
     rcases get_push e2 with ⟨hb', _⟩ | ⟨_, e⟩
     ·rw [hrr.blen] at hb'; omega
     ·injection e
    subst this
    subst hb
    exact ⟨hB, ⟨_, by simp [G'], fun _ => rfl⟩, fun _ => hI, arr, ty, hw, hle, fun _ n hn => hz n (by simpa [gf] using hn), fun i hi => ⟨hcell _ (List.getElem_mem hi), .cl (hR i hi)⟩⟩
  ·rcases get_push e2 with ⟨hb, e2⟩ | ⟨hb, e2⟩
   ·have e1' : gr.bl[b]? = some (some bk) := by
     rcases get_push e1 with ⟨_, e1⟩ | ⟨hb', _⟩
     ·exact e1
     ·rw [hrr.blen] at hb'; omega
    have hf := hrr.full b bk e1' e2; exact ⟨hf.1, by have := hf.2; simp; omega⟩
   ·exact absurd e2.symm hne
  ·have ht := hrr.tok g n T e1 e2
   have hs : ∀ (hn : n.isSome = true), G'.own T.blk = some (.tok d g) ∧ w.heap[T.blk]? = w.heap[T.blk]? ∧ ∀ i, G.I T.blk i = none → G'.I T.blk i = none := fun hn => by
    obtain ⟨m, hm⟩ := Option.isSome_iff_exists.1 hn
    exact hk _ _ (ht.2 m hm).2.1 (fun x => x)
   exact ht.keep (fun hn => (hs hn).1) (fun hn => (hs hn).2.1) (fun hn => (hs hn).2.2)
  ·have hm := hrr.mark i b e1
   obtain ⟨k1, k2, _⟩ := hk _ _ hm.2.1 (fun x => x)
   exact hm.keep k1 k2
  ·simp only [gf] at e1
   split at e1
   ·rename_i hb
    subst hb
    refine ⟨blk, ?_⟩
    show (gr.bl ++ [some blk])[r.boxes.length]? = _
    rw [← hrr.blen, List.getElem?_append_right (Nat.le_refl _)]
    simp
   ·obtain ⟨q, hb⟩ := hrr.gsl b n e1
    exact ⟨q, get_old hb⟩
  ·obtain ⟨hb', cs2, h2, h3⟩ := hrr.mp b blk2 e1
   exact ⟨get_old hb', cs2, get_old h2, h3.kept hk fun x => x⟩
 ·simp only [G'] at e
  split at e
  ·rename_i hb; subst hb; exact (Array.getElem?_eq_some_iff.1 hw).1
  ·exact h.ownlt b o e
theorem get_reps {α : Type} {l : List α} {x : α} {n b : Nat} {y : α} (h : (l ++ List.replicate n x)[b]? = some y) : l[b]? = some y ∨ (l.length ≤ b ∧ y = x) := by
 rcases Nat.lt_or_ge b l.length with hb | hb
 ·rw [List.getElem?_append_left hb] at h; exact .inl h
 ·rw [List.getElem?_append_right hb] at h
  exact .inr ⟨hb, by rw [List.getElem?_replicate] at h; split at h; (injection h with h; exact h.symm); cases h⟩
theorem reserve_sound (h : At P B0 w0 G k nl s w) (n : Nat) : StepTo P B0 w0 G k nl s (s.reserve n) w AV.undef Go.undef := by
 obtain ⟨r, gr, hr, hg⟩ := h.rec_ (Nat.le_refl k)
 have hrr := h.rel.rec_ k r gr hr hg
 let G' : Ghost := { G with acts := G.acts.modify k fun q => { q with bl := q.bl ++ List.replicate n none } }
 have hk : KeepsOwn (fun _ => False) G w G' w := fun b o e _ => ⟨e, rfl, fun _ e => e⟩
 have hle0 : RecLe gr { gr with bl := gr.bl ++ List.replicate n none } := ⟨fun b blk e => by
  show (gr.bl ++ _)[b]? = _
  rw [List.getElem?_append_left (List.getElem?_eq_some_iff.1 e).1]; exact e, fun g T e => ⟨T, e, .refl T⟩, rfl, fun _ _ e => e, fun _ _ e => e⟩
 have hle : GLe k gr.nl G G' := ⟨fun _ _ _ e => e, fun d q _ e => by
  simp only [G', modify_get]
  by_cases hd : k = d
  ·subst hd
   rw [hg] at e
   injection e with e
   subst e
   exact ⟨_, by rw [if_pos rfl, hg]; rfl, hle0, fun _ => rfl⟩
  ·exact ⟨q, by rw [if_neg hd]; exact e, .refl q, fun _ => rfl⟩, fun _ _ _ e => e⟩
 have hstep := h.rel.onRec (G' := G') (w' := w) hr hg (fun r => { r with boxes := r.boxes ++ List.replicate n [] }) (fun q => { q with bl := q.bl ++ List.replicate n none }) (fun _ => False) rfl rfl (fun _ _ _ e => e) hle0 rfl hk
  (fun o ho => ho.elim) ?_ (fun b i v e => h.rel.imm b i v e) (Below.refl _ _) (fun b o e => h.rel.ownlt b o e)
 ·obtain ⟨hs, hle'⟩ := hstep
  have hs' : SRel P B0 w0 G' (s.reserve n) w := by
   simp only [Sig.reserve, h.cur_eq]
   exact hs
  exact ⟨G', h.to hs' (hle' _ _) (by simp [Sig.reserve, Sig.onRec]), hle' _ _, by simp [Sig.reserve, Sig.onRec], .undef⟩
 ·refine ⟨by simp [hrr.blen], hrr.tlen, fun b cs' blk e1 e2 => ?_, fun b blk e1 e2 => ?_, fun g n T e1 e2 => ?_, fun i b e1 => ?_, fun b n e1 => ?_, fun b blk2 e1 => ?_⟩
  ·have e2' : gr.bl[b]? = some (some blk) := by
    rcases get_reps e2 with e2 | ⟨_, e⟩
    ·exact e2
    ·cases e
   have e1' : r.boxes[b]? = some cs' := by
    rcases get_reps e1 with e1 | ⟨hb', _⟩
    ·exact e1
    ·have := (List.getElem?_eq_some_iff.1 e2').1; rw [hrr.blen] at this; omega
   exact (hrr.box b cs' blk e1' e2').kept hle hk (fun _ x => x)
  ·have e1' : gr.bl[b]? = some (some blk) := by
    rcases get_reps e1 with e1 | ⟨_, e⟩
    ·exact e1
    ·cases e
   rcases get_reps e2 with e2 | ⟨hb', _⟩
   ·have hf := hrr.full b blk e1' e2; exact ⟨hf.1, by have := hf.2; simp; omega⟩
   ·have := (List.getElem?_eq_some_iff.1 e1').1; rw [hrr.blen] at this; omega
  ·exact hrr.tok g n T e1 e2
  ·exact hrr.mark i b e1
  ·obtain ⟨blk, hb⟩ := hrr.gsl b n e1
   refine ⟨blk, ?_⟩
   show (gr.bl ++ _)[b]? = _
   rw [List.getElem?_append_left (List.getElem?_eq_some_iff.1 hb).1]; exact hb
  ·obtain ⟨hb', cs2, h2, h3⟩ := hrr.mp b blk2 e1
   exact ⟨by show (gr.bl ++ _)[b]? = _; rw [List.getElem?_append_left (List.getElem?_eq_some_iff.1 hb').1]; exact hb', cs2, by show (r.boxes ++ _)[b]? = _; rw [List.getElem?_append_left (List.getElem?_eq_some_iff.1 h2).1]; exact h2, h3.kept hk fun x => x⟩
theorem slot_sound (h : At P B0 w0 G k nl s w) {zs : List AV} {arr : Array Value} (ty : TypeId) {back : Nat} {v : AV} {s' : Sig} (hcell : ∀ c, c ∈ zs → c.isCell = true) (hR : Row2 (Rel G k nl) zs arr)
  (hv : slotOp s back zs = some (v, s')) : StepTo P B0 w0 G k nl s s' (w.alloc (.cells arr ty)) v (.pointer (some ⟨w.heap.size, 0, none⟩)) := by
 obtain ⟨r, gr, hr, hg⟩ := h.rec_ (Nat.le_refl k)
 have hnl : gr.nl = nl := by obtain ⟨g', e1, e2⟩ := h.cur; rw [hg] at e1; injection e1 with e1; rw [e1]; exact e2
 have hrr := h.rel.rec_ k r gr hr hg
 unfold slotOp at hv
 split at hv
 case h_2 => cases hv
 rename_i hbx
 split at hv
 ·cases hv
 rename_i hne0
 have hne1 : zs.isEmpty ≠ true := fun e => hne0 (.inl e)
 have hnt : s.noneTok s.cur = false ∨ back = 1 := by
  cases e : s.noneTok s.cur with
  | true => exact .inr (Classical.byContradiction fun hb => hne0 (.inr ⟨e, hb⟩))
  | false => exact .inl rfl
 injection hv with hv
 injection hv with hv1 hv2
 subst hv1 hv2
 have hne : zs ≠ [] := fun e => hne1 (by rw [e]; rfl)
 rw [h.cur_eq] at hbx hnt ⊢
 have hnbx : s.nbox k = r.boxes.length := by simp [Sig.nbox, hr]
 have htk : ¬ (none ∈ r.toks ∧ s.nbox k - back + 1 < r.boxes.length) := by
  rintro ⟨hm, hl⟩
  rcases hnt with hnt | hnt
  ·simp only [Sig.noneTok, hr] at hnt
   have := List.any_eq_false.1 hnt none hm
   exact this rfl
  ·rw [hnbx, hnt] at hl
   omega
 generalize s.nbox k - back = b0 at *
 have hb0 : r.boxes[b0]? = some [] := by
  simpa [Sig.box, hr] using hbx
 have hb0l : b0 < r.boxes.length := (List.getElem?_eq_some_iff.1 hb0).1
 have hbl0 : gr.bl[b0]? = some none := by
  have hl : b0 < gr.bl.length := by rw [hrr.blen]; exact hb0l
  rw [List.getElem?_eq_getElem hl]
  cases e : gr.bl[b0] with
  | none => rfl
  | some blk => exact absurd (hrr.full b0 blk (by rw [List.getElem?_eq_getElem hl, e]) hb0) htk
 let G' : Ghost := { G with acts := G.acts.modify k fun q => { q with bl := q.bl.set b0 (some w.heap.size) }, own := fun b => if b = w.heap.size then some (.box k b0) else G.own b }
 have hk : KeepsOwn (fun _ => False) G w G' (w.alloc (.cells arr ty)) := fun b o e _ => by
  have hlt := h.rel.ownlt b o e
  exact ⟨by simp only [G']; rw [if_neg (by omega)]; exact e, Below.heap_alloc _ _ _ hlt, fun _ e => e⟩
 have hset : ∀ (b : Nat) (x : Option Nat), b ≠ b0 → (gr.bl.set b0 (some w.heap.size))[b]? = some x → gr.bl[b]? = some x := fun b x hb e => by
  rw [List.getElem?_set_ne (Ne.symm hb)] at e; exact e
 have hle0 : RecLe gr { gr with bl := gr.bl.set b0 (some w.heap.size) } := ⟨fun b blk e => by
  show (gr.bl.set _ _)[b]? = _
  by_cases hb : b = b0
  ·subst hb; rw [hbl0] at e; cases e
  ·rw [List.getElem?_set_ne (Ne.symm hb)]; exact e, fun g T e => ⟨T, e, .refl T⟩, rfl, fun _ _ e => e, fun _ _ e => e⟩
 have hnew : (w.alloc (.cells arr ty)).heap[w.heap.size]? = some (.cells arr ty) := World.alloc_heap_new w _
 have hle : GLe k nl G G' := ⟨fun _ _ _ e => e, fun d q _ e => by
  simp only [G', modify_get]
  by_cases hd : k = d
  ·subst hd
   rw [hg] at e
   injection e with e
   subst e
   exact ⟨_, by rw [if_pos rfl, hg]; rfl, hle0, fun _ => rfl⟩
  ·exact ⟨q, by rw [if_neg hd]; exact e, .refl q, fun _ => rfl⟩, fun _ _ _ e => e⟩
 have hstep := h.rel.onRec (G' := G') (w' := w.alloc (.cells arr ty)) hr hg (fun r => { r with boxes := r.boxes.set b0 zs }) (fun q => { q with bl := q.bl.set b0 (some w.heap.size) }) (fun _ => False) rfl rfl (fun _ _ _ e => e) hle0 rfl hk
  (fun o ho => ho.elim) ?_ (fun b i v e => ?_) ((Below.refl _ _).alloc h.rel.low _) (fun b o e => ?_)
 ·obtain ⟨hs, hle'⟩ := hstep
  have hat := h.to (s' := s.setBox k b0 zs) hs (hle' k nl) (by simp [Sig.setBox, Sig.onRec])
  refine ⟨G', hat, hle' _ _, by simp [Sig.setBox, Sig.onRec], ?_⟩
  have hga : G'.acts[k]? = some { gr with bl := gr.bl.set b0 (some w.heap.size) } := by
   show (G.acts.modify k _)[k]? = _
   rw [modify_get, if_pos rfl, hg]; rfl
  refine .ptr _ (Nat.le_refl _) hga ?_
  show (gr.bl.set b0 (some w.heap.size))[b0]? = _
  rw [List.getElem?_set_self (by rw [hrr.blen]; exact hb0l)]
 ·refine ⟨by simp [hrr.blen], hrr.tlen, fun b cs' blk e1 e2 => ?_, fun b blk e1 e2 => ?_, fun g n T e1 e2 => ?_, fun i b e1 => ?_, fun b n e1 => ?_, fun b blk2 e1 => ?_⟩
  ·by_cases hb : b = b0
   ·subst hb
    have e2' : w.heap.size = blk := by
     have e3 : (gr.bl.set b (some w.heap.size))[b]? = some (some blk) := e2
     rw [List.getElem?_set_self (by rw [hrr.blen]; exact hb0l)] at e3
     injection e3 with e3; injection e3
    subst e2'
    have e1' : zs = cs' := by
     have e3 : (r.boxes.set b zs)[b]? = some cs' := e1
     rw [List.getElem?_set_self hb0l] at e3
     injection e3
    subst e1'
    refine ⟨h.rel.low, ⟨_, by simp [G'], fun _ => rfl⟩, fun _ => h.rel.I_new, arr, ty, hnew, Nat.le_of_eq hR.1.symm, fun _ n hn => ?_, fun i hi => ⟨hcell _ (List.getElem_mem hi), ?_⟩⟩
    ·obtain ⟨blk, hb⟩ := hrr.gsl b n hn
     rw [hbl0] at hb; cases hb
    have := (hR.2 i hi).mono hle (Nat.le_refl _) (Nat.le_refl _)
    show Rel G' k gr.nl _ _
    rw [hnl]
    exact this
   ·have e1' : r.boxes[b]? = some cs' := by
     have e3 : (r.boxes.set b0 zs)[b]? = some cs' := e1
     rw [List.getElem?_set_ne (Ne.symm hb)] at e3; exact e3
    have hbx := hrr.box b cs' blk e1' (hset b _ hb e2)
    exact hbx.kept (by rw [hnl]; exact hle) hk (fun _ x => x)
  ·by_cases hb : b = b0
   ·subst hb
    have e3 : (r.boxes.set b zs)[b]? = some [] := e2
    rw [List.getElem?_set_self hb0l] at e3
    injection e3 with e3
    exact absurd e3 hne
   ·have e3 : (r.boxes.set b0 zs)[b]? = some [] := e2
    rw [List.getElem?_set_ne (Ne.symm hb)] at e3
    have hf := hrr.full b blk (hset b _ hb e1) e3; exact ⟨hf.1, by have := hf.2; simpa using this⟩
  ·have ht := hrr.tok g n T e1 e2
   have hs : ∀ (hn : n.isSome = true), G'.own T.blk = some (.tok k g) ∧ (w.alloc (.cells arr ty)).heap[T.blk]? = w.heap[T.blk]? ∧ ∀ i, G.I T.blk i = none → G'.I T.blk i = none := fun hn => by
    obtain ⟨m, hm⟩ := Option.isSome_iff_exists.1 hn
    exact hk _ _ (ht.2 m hm).2.1 (fun x => x)
   exact ht.keep (fun hn => (hs hn).1) (fun hn => (hs hn).2.1) (fun hn => (hs hn).2.2)
  ·have hm := hrr.mark i b e1
   obtain ⟨k1, k2, _⟩ := hk _ _ hm.2.1 (fun x => x)
   exact hm.keep k1 k2
  ·obtain ⟨blk, hb⟩ := hrr.gsl b n e1
   exact ⟨blk, hle0.bl _ _ hb⟩
  ·obtain ⟨hb', cs2, h2, h3⟩ := hrr.mp b blk2 e1
   have hbn : b ≠ b0 := by
    rintro rfl
    rw [hb0] at h2
    injection h2 with h2
    obtain ⟨_, _, _, ks, _, _, h4, _⟩ := h3
    rw [← h2] at h4; cases h4
   exact ⟨by show (gr.bl.set _ _)[b]? = _; rw [List.getElem?_set_ne (Ne.symm hbn)]; exact hb', cs2, by show (r.boxes.set _ _)[b]? = _; rw [List.getElem?_set_ne (Ne.symm hbn)]; exact h2, h3.kept hk fun x => x⟩
 ·have hlt := h.rel.I_lt e
  rw [World.cell?_alloc_lt _ _ _ (by exact hlt)]
  exact h.rel.imm b i v e
 ·simp only [G'] at e
  split at e
  ·rename_i hb; subst hb; simp
  ·have := h.rel.ownlt b o e; simp; omega
end
end Go.Ax

/-
  append: to a slice that is nil or full, and to one with the right to grow.
-/
namespace Go.Ax
open Go.RowKit
section
variable {P : Program} {B0 : Nat} {w0 : World} {G : Ghost} {k nl : Nat} {w : World} {s : Sig}
theorem SliceC.flat {I : IMap} {es : Nat} {xs : List (List AV)} {a : Addr} {cap : Nat} (h : SliceC I es xs a cap) (hes : 0 < es) :
  (0 < cap → a.spot = none) ∧ xs.length ≤ cap ∧ (∀ r, r ∈ xs → r.length = es) ∧ (∀ r, r ∈ xs → ∀ c, c ∈ r → c.isCell = true) ∧
  ∃ g : Nat → Value, (∀ c, c < xs.length * es → I a.block (a.off + c) = some (g c)) ∧ ∀ i (hi : i < xs.length) j (hj : j < xs[i].length), RelC I (xs[i][j]) (g (i * es + j)) := by
 cases h with
 | empty => exact ⟨fun h => absurd h (Nat.lt_irrefl _), Nat.le_refl _, by simp, by simp, fun _ => Go.undef, fun c hc => by simp at hc, fun i hi => absurd hi (Nat.not_lt_zero _)⟩
 | slice f ho hc hlen hcell hI hR =>
  refine ⟨fun _ => rfl, hc, hlen, hcell, fun c => f (c / es) (c % es), fun c hlt => ?_, fun i hi j hj => ?_⟩
  ·have h1 : c / es < xs.length := by rw [Nat.div_lt_iff_lt_mul hes]; exact hlt
   have h2 : c % es < (xs[c / es]).length := by rw [hlen _ (List.getElem_mem h1)]; exact Nat.mod_lt _ hes
   have := hI (c / es) h1 (c % es) h2
   rw [Nat.add_assoc, Nat.div_add_mod'] at this
   exact this
  ·have hj' : j < es := by rw [← hlen _ (List.getElem_mem hi)]; exact hj
   have e1 : (i * es + j) / es = i := by rw [Nat.mul_comm, Nat.mul_add_div hes, Nat.div_eq_of_lt hj']; omega
   have e2 : (i * es + j) % es = j := by rw [Nat.mul_comm, Nat.mul_add_mod, Nat.mod_eq_of_lt hj']
   simp only [e1, e2]
   exact hR i hi j hj
theorem SliceC.mk {I : IMap} {es : Nat} {xs : List (List AV)} {blk off cap : Nat} (g : Nat → Value) (hc : xs.length ≤ cap) (hlen : ∀ r, r ∈ xs → r.length = es) (hcell : ∀ r, r ∈ xs → ∀ c, c ∈ r → c.isCell = true)
  (hI : ∀ c, c < xs.length * es → I blk (off + c) = some (g c)) (hR : ∀ i (hi : i < xs.length) j (hj : j < xs[i].length), RelC I (xs[i][j]) (g (i * es + j))) : SliceC I es xs ⟨blk, off, none⟩ cap := by
 refine .slice (fun i j => g (i * es + j)) (.inl rfl) hc hlen hcell (fun i hi j hj => ?_) hR
 rw [Nat.add_assoc]
 refine hI _ ?_
 have hj' : j < es := by rw [← hlen _ (List.getElem_mem hi)]; exact hj
 calc i * es + j < i * es + es := by omega
  _ = (i + 1) * es := by rw [Nat.add_mul, Nat.one_mul]
  _ ≤ xs.length * es := Nat.mul_le_mul_right _ hi
def both (n : Nat) (f g : Nat → Value) : Nat → Value := fun c => if c < n then f c else g (c - n)
theorem both_list (n m : Nat) (f g : Nat → Value) : (List.range n).map f ++ (List.range m).map g = (List.range (n + m)).map (both n f g) := by
 apply List.ext_getElem
 ·simp
 ·intro i h1 h2
  simp only [List.length_append, List.length_map, List.length_range] at h1
  by_cases hi : i < n
  ·rw [List.getElem_append_left (by simpa using hi)]
   simp [both, hi]
  ·rw [List.getElem_append_right (by simpa using hi)]
   simp [both, hi]
theorem joined_rel {I : IMap} {es : Nat} {xs ys : List (List AV)} {f g : Nat → Value} (hx : ∀ i (hi : i < xs.length) j (hj : j < xs[i].length), RelC I (xs[i][j]) (f (i * es + j)))
  (hy : ∀ i (hi : i < ys.length) j (hj : j < ys[i].length), RelC I (ys[i][j]) (g (i * es + j))) (lx : ∀ r, r ∈ xs → r.length = es) (i : Nat) (hi : i < (xs ++ ys).length) (j : Nat) (hj : j < (xs ++ ys)[i].length) :
  RelC I ((xs ++ ys)[i][j]) (both (xs.length * es) f g (i * es + j)) := by
 by_cases h : i < xs.length
 ·have e : (xs ++ ys)[i] = xs[i] := List.getElem_append_left h
  have hj' : j < xs[i].length := by rw [← e]; exact hj
  have hlt : i * es + j < xs.length * es := by
   have : j < es := by rw [← lx _ (List.getElem_mem h)]; exact hj'
   calc i * es + j < i * es + es := by omega
    _ = (i + 1) * es := by rw [Nat.add_mul, Nat.one_mul]
    _ ≤ xs.length * es := Nat.mul_le_mul_right _ h
  have := hx i h j hj'
  simp only [both, hlt, if_true, e]
  exact this
 ·have h' : i - xs.length < ys.length := by simp at hi; omega
  have e : (xs ++ ys)[i] = ys[i - xs.length] := List.getElem_append_right (by omega)
  have hj' : j < ys[i - xs.length].length := by rw [← e]; exact hj
  have hge : ¬ i * es + j < xs.length * es := by
   have := Nat.mul_le_mul_right es (Nat.le_of_not_lt h)
   omega
  have he : i * es + j - xs.length * es = (i - xs.length) * es + j := by
   have := Nat.mul_le_mul_right es (Nat.le_of_not_lt h)
   rw [Nat.sub_mul]; omega
  have := hy _ h' j hj'
  simp only [both, hge, if_false, he, e]
  exact this
theorem growBy_le (need : Nat) : ∀ (r c : Nat), c ≤ need + (need + 768) / 4 → Builtin.growBy need r c ≤ need + (need + 768) / 4
 | 0, c, h => h
 | r + 1, c, h => by
  simp only [Builtin.growBy]
  split
  ·exact h
  ·exact growBy_le need r _ (by omega)
theorem nextcap_le (need old : Nat) (h : old < need) : Builtin.nextslicecap need old ≤ 2 * need + 1000 := by
 unfold Builtin.nextslicecap
 split
 ·omega
 ·split
  ·omega
  ·have := growBy_le need 4 old (by omega)
   omega
structure ElemT (P : Program) (t e : TypeId) (es by_ : Nat) (z : Value) : Prop where
 slice : P.underlying t = some (.slice e)
 size : sizeP P e = some es
 bytes : bytesP P e = some by_
 zero : (P.info? e).bind (·.zero) = some z
 zlen : z.cells.size = es
 pos : 0 < es
 bpos : 0 < by_
 ble : by_ ≤ 4096
theorem zeroValue_run {e : TypeId} {z : Value} (h : (P.info? e).bind (·.zero) = some z) (w : World) : (zeroValue e).run P w = .ok z w := by
 cases hi : P.info? e with
 | none => rw [hi] at h; cases h
 | some i =>
  rw [hi] at h
  simp only [Option.bind_some] at h
  simp [zeroValue, typeInfo, hi, h]
theorem info_of {e : TypeId} {b : Nat} (h : bytesP P e = some b) : ∃ i, P.info? e = some i ∧ i.bytes = b := by
 unfold bytesP at h
 cases hi : P.info? e with
 | none => rw [hi] at h; cases h
 | some i =>
  rw [hi] at h
  simp only [Option.map_some, Option.some.injEq] at h
  exact ⟨i, rfl, h⟩
theorem firstCells_run {a : Addr} {n es len cap : Nat} {g : Nat → Value} (h : ∀ c, c < n * es → w.cell? (a.add c) = some (g c)) :
  (Builtin.firstCells es n (.slice (some a) len cap)).run P w = .ok ((List.range (n * es)).map g).toArray w := by
 simp only [Builtin.firstCells]
 exact run_loadCells w a (n * es) g h
theorem append_none_run {t u e ty : TypeId} {es by_ n cap : Nat} {z : Value} (hT : ElemT P t e es by_ z) (hu : ∃ e', P.underlying u = some (.slice e')) (base b : Option Addr) (c : Nat) (hle : n ≤ cap) :
  (Builtin.append_ #[t, u] ty #[.slice base n cap, .slice b 0 c]).run P w = .ok (.slice base n cap) w := by
 obtain ⟨e', hu⟩ := hu
 obtain ⟨i, hi, _⟩ := info_of hT.bytes
 have hs : i.size = es := by have := hT.size; unfold sizeP at this; rw [hi] at this; simpa using this
 have hf : ∀ b : Option Addr, (Builtin.firstCells es 0 (.slice b 0 c)).run P w = .ok #[] w := fun b => by
  cases b with
  | none => simp [Builtin.firstCells]
  | some a => simp [Builtin.firstCells, loadCells, loadCellsFrom]
 cases base with
 | none => simp [Builtin.append_, run_underlying hT.slice, run_underlying hu, sizeOf, typeInfo, hi, hs, Builtin.lenOf, hle, hf]
 | some a => simp [Builtin.append_, run_underlying hT.slice, run_underlying hu, sizeOf, typeInfo, hi, hs, Builtin.lenOf, hle, hf, storeCells]
theorem append_room_run {t u e ty : TypeId} {es by_ n m cap c blk : Nat} {z : Value} {a : Addr} {g : Nat → Value} {arr : Array Value} {tb : TypeId} (hT : ElemT P t e es by_ z) (hu : ∃ e', P.underlying u = some (.slice e')) (hle : n + m ≤ cap)
  (hg : ∀ c, c < m * es → w.cell? (a.add c) = some (g c)) (hw : w.heap[blk]? = some (.cells arr tb)) (hsz : (n + m) * es ≤ arr.size) (h1 : ∀ c, c < m * es → (g c).oneCell' = true) :
  (Builtin.append_ #[t, u] ty #[.slice (some ⟨blk, 0, none⟩) n cap, .slice (some a) m c]).run P w = .ok (.slice (some ⟨blk, 0, none⟩) (n + m) cap) (w.setCells blk (n * es) ((List.range (m * es)).map g)) := by
 obtain ⟨e', hu⟩ := hu
 obtain ⟨i, hi, _⟩ := info_of hT.bytes
 have hs : i.size = es := by have := hT.size; unfold sizeP at this; rw [hi] at this; simpa using this
 have hfc := firstCells_run (P := P) (len := m) (cap := c) hg
 have hst := run_storeCells_cells (P := P) blk (n * es) ((List.range (m * es)).map g) 0 w (fun j hj => by
   rw [cell_of_heap hw]
   have hj' : j < m * es := by simpa using hj
   rw [Nat.add_mul] at hsz
   simp; omega) (fun j _ => frozen_of_heap hw) (fun v hv => by
   simp only [List.mem_map, List.mem_range] at hv
   obtain ⟨c, hc, rfl⟩ := hv
   exact h1 c hc)
 rw [Nat.add_zero] at hst
 simp [Builtin.append_, run_underlying hT.slice, run_underlying hu, sizeOf, typeInfo, hi, hs, Builtin.lenOf, hle, hfc, addr_add, hst]
theorem big_most {t e : TypeId} {es by_ n cap : Nat} {z : Value} (hT : ElemT P t e es by_ z) (hgt : ¬ n ≤ cap) (hmost : n ≤ most) : Builtin.nextslicecap n cap * by_ ≤ 2 ^ 48 := by
 have hncap := nextcap_le n cap (by omega)
 unfold most at hmost
 have h1 : Builtin.nextslicecap n cap * by_ ≤ (2 * 4294967296 + 1000) * 4096 := Nat.mul_le_mul (by omega) hT.ble
 omega
theorem append_grow_run {t u e ty : TypeId} {es by_ n m cap c : Nat} {z : Value} {base : Option Addr} {a : Addr} {f g : Nat → Value} (hT : ElemT P t e es by_ z) (hu : ∃ e', P.underlying u = some (.slice e')) (hgt : ¬ n + m ≤ cap) (hmost : Builtin.nextslicecap (n + m) cap * by_ ≤ 2 ^ 48)
  (hf : ∀ b, base = some b → ∀ c, c < n * es → w.cell? (b.add c) = some (f c)) (hf0 : base = none → n = 0) (hg : ∀ c, c < m * es → w.cell? (a.add c) = some (g c)) :
  ∃ (newCap : Nat) (rest : List Value), n + m ≤ newCap ∧ rest.length = (newCap - (n + m)) * es ∧
   (Builtin.append_ #[t, u] ty #[.slice base n cap, .slice (some a) m c]).run P w =
    .ok (.slice (some ⟨w.heap.size, 0, none⟩) (n + m) newCap) (w.drew.alloc (.cells ((List.range (n * es + m * es)).map (both (n * es) f g) ++ rest).toArray e)) := by
 obtain ⟨e', hu⟩ := hu
 obtain ⟨i, hi, hby⟩ := info_of hT.bytes
 have hs : i.size = es := by have := hT.size; unfold sizeP at this; rw [hi] at this; simpa using this
 have hz : i.zero = some z := by have := hT.zero; rw [hi] at this; simpa using this
 have hgt' : cap < n + m := by omega
 have hbig : ¬ Builtin.nextslicecap (n + m) cap * i.bytes > 2 ^ 48 := by rw [hby]; omega
 have hb0 : ¬ i.bytes = 0 := by have := hT.bpos; omega
 have hfc := firstCells_run (P := P) (w := w.drew) (n := m) (es := es) (a := a) (g := g) (len := m) (cap := c) hg
 have hold : (Builtin.firstCells es n (.slice base n cap)).run P w.drew = .ok ((List.range (n * es)).map f).toArray w.drew := by
  cases base with
  | none => rw [hf0 rfl]; simp [Builtin.firstCells]
  | some b => exact firstCells_run (P := P) (w := w.drew) (hf b rfl)
 have hcap : n + m ≤ (Question.appendCap (n + m) cap e).cut (w.tape w.drawn (Question.appendCap (n + m) cap e)) := by simp [Question.cut]
 generalize hnc : (Question.appendCap (n + m) cap e).cut (w.tape w.drawn (Question.appendCap (n + m) cap e)) = newCap at hcap
 refine ⟨newCap, (Builtin.zeroCells z.cells (newCap - (n + m))).toList, hcap, by simp [Builtin.zeroCells, hT.zlen], ?_⟩
 have hfo : (Question.appendCap (n + m) cap e).forced = false := rfl
 simp only [Builtin.append_, List.getElem?_toArray, List.getElem?_cons_zero, List.getElem?_cons_succ, Sem.run_bind, Sem.run_pure, Result.andThen_ok, run_underlying hT.slice, run_underlying hu, sizeOf_run hT.size,
  Builtin.lenOf, Bool.false_eq_true, hgt, ↓reduceIte]
 simp [typeInfo, hi, hb0, hbig, hold, hfc, newRow, hfo, hnc, zeroValue_run hT.zero]
 rw [← both_list]
 congr 2
 apply Array.ext'
 simp
theorem none_set {l : List (Option Nat)} {g : Nat} {x : Option Nat} (h : none ∈ l) (hg : x = none ∨ ∃ n, l[g]? = some (some n)) : none ∈ l.set g x := by
 obtain ⟨j, hj⟩ := List.getElem?_of_mem h
 have hl := (List.getElem?_eq_some_iff.1 hj).1
 by_cases e : j = g
 ·subst e
  rcases hg with rfl | ⟨n, hn⟩
  ·exact List.mem_of_getElem? (i := j) (by simp [hl])
  ·rw [hj] at hn; injection hn with hn; cases hn
 ·exact List.mem_of_getElem? (i := j) (by rw [List.getElem?_set_ne (Ne.symm e)]; exact hj)
theorem RecRel.tokens {G' : Ghost} {w' : World} {d g0 : Nat} {r : Rec} {gr : GRec} (hrr : RecRel B0 G d r gr w) (hle : GLe d gr.nl G G') (hk : KeepsOwn (· = .tok d g0) G w G' w') {toks' : List (Option Nat)} {tk' : List TokG}
  (hl : tk'.length = toks'.length) (hlt : none ∈ r.toks → none ∈ toks')
  (hg : ∀ (g : Nat) (n : Option Nat) (T : TokG), toks'[g]? = some n → tk'[g]? = some T → (g ≠ g0 ∧ r.toks[g]? = some n ∧ gr.tk[g]? = some T) ∨ (g = g0 ∧ TokRel B0 G' d g n T w')) :
  RecRel B0 G' d { r with toks := toks' } { gr with tk := tk' } w' := by
 refine ⟨hrr.blen, hl, fun b cs blk e1 e2 => ?_, fun b blk e1 e2 => ⟨hlt (hrr.full b blk e1 e2).1, (hrr.full b blk e1 e2).2⟩, fun g n T e1 e2 => ?_, fun i b e1 => ?_, hrr.gsl, fun b blk2 e1 => ?_⟩
 ·exact (hrr.box b cs blk e1 e2).kept hle hk (fun _ e => by cases e)
 ·rcases hg g n T e1 e2 with ⟨hne, h1, h2⟩ | ⟨_, h⟩
  ·have ht := hrr.tok g n T h1 h2
   have hs : ∀ (hn : n.isSome = true), G'.own T.blk = some (.tok d g) ∧ w'.heap[T.blk]? = w.heap[T.blk]? ∧ ∀ i, G.I T.blk i = none → G'.I T.blk i = none := fun hn => by
    obtain ⟨m, hm⟩ := Option.isSome_iff_exists.1 hn
    exact hk _ _ (ht.2 m hm).2.1 (fun e => by injection e with _ e; exact hne e)
   exact ht.keep (fun hn => (hs hn).1) (fun hn => (hs hn).2.1) (fun hn => (hs hn).2.2)
  ·exact h
 ·have hm := hrr.mark i b e1
  obtain ⟨k1, k2, _⟩ := hk _ _ hm.2.1 (fun e => by cases e)
  exact hm.keep k1 k2
 ·obtain ⟨hb', cs2, h2, h3⟩ := hrr.mp b blk2 e1
  exact ⟨hb', cs2, h2, h3.kept hk (fun e => by cases e)⟩
def Ghost.addRow (G : Ghost) (b n : Nat) (f : Nat → Value) : IMap := fun c i => if c = b then (if i < n then some (f i) else none) else G.I c i
theorem both_rel {xs ys : List (List AV)} {es : Nat} {I : IMap} {f g : Nat → Value} {blk cap : Nat} (lx : ∀ r, r ∈ xs → r.length = es) (ly : ∀ r, r ∈ ys → r.length = es)
  (cx : ∀ r, r ∈ xs → ∀ c, c ∈ r → c.isCell = true) (cy : ∀ r, r ∈ ys → ∀ c, c ∈ r → c.isCell = true) (hcap : xs.length + ys.length ≤ cap)
  (hI : ∀ c, c < (xs.length + ys.length) * es → I blk c = some (both (xs.length * es) f g c))
  (hx : ∀ i (hi : i < xs.length) j (hj : j < xs[i].length), RelC I (xs[i][j]) (f (i * es + j))) (hy : ∀ i (hi : i < ys.length) j (hj : j < ys[i].length), RelC I (ys[i][j]) (g (i * es + j))) :
  SliceC I es (xs ++ ys) ⟨blk, 0, none⟩ cap := by
 refine SliceC.mk (both (xs.length * es) f g) (by simpa using hcap) (fun r hr => ?_) (fun r hr => ?_) (fun c hc => ?_) (joined_rel hx hy lx)
 ·rcases List.mem_append.1 hr with h | h
  ·exact lx r h
  ·exact ly r h
 ·rcases List.mem_append.1 hr with h | h
  ·exact cx r h
  ·exact cy r h
 ·rw [Nat.zero_add]
  exact hI c (by simpa using hc)
theorem append_new (h : At P B0 w0 G k nl s w) {es n : Nat} {xs ys : List (List AV)} {f g : Nat → Value} {newCap : Nat} {rest : List Value} {e : TypeId} (hes : 0 < es) (hn : n = xs.length + ys.length)
    (lx : ∀ r, r ∈ xs → r.length = es) (ly : ∀ r, r ∈ ys → r.length = es) (cx : ∀ r, r ∈ xs → ∀ c, c ∈ r → c.isCell = true) (cy : ∀ r, r ∈ ys → ∀ c, c ∈ r → c.isCell = true)
    (hx : ∀ i (hi : i < xs.length) j (hj : j < xs[i].length), RelC G.I (xs[i][j]) (f (i * es + j))) (hy : ∀ i (hi : i < ys.length) j (hj : j < ys[i].length), RelC G.I (ys[i][j]) (g (i * es + j)))
    (hcap : n ≤ newCap) (hrest : rest.length = (newCap - n) * es) :
    StepTo P B0 w0 G k nl s (s.addTok k n) (w.drew.alloc (.cells ((List.range (xs.length * es + ys.length * es)).map (both (xs.length * es) f g) ++ rest).toArray e))
      (.slice (.tok k (s.ntok k)) es (xs ++ ys)) (.slice (some ⟨w.heap.size, 0, none⟩) n newCap) := by
  obtain ⟨r, gr, hr, hg⟩ := h.rec_ (Nat.le_refl k)
  have hrr := h.rel.rec_ k r gr hr hg
  have hnt : s.ntok k = r.toks.length := by simp [Sig.ntok, hr]
  have hsum : xs.length * es + ys.length * es = n * es := by rw [hn, Nat.add_mul]
  let T : TokG := ⟨some n, w.heap.size, newCap, es⟩
  let G' : Ghost := { G with I := G.addRow w.heap.size (n * es) (both (xs.length * es) f g), acts := G.acts.modify k fun q => { q with tk := q.tk ++ [T] }, own := fun b => if b = w.heap.size then some (.tok k r.toks.length) else G.own b }
  generalize harr : ((List.range (xs.length * es + ys.length * es)).map (both (xs.length * es) f g) ++ rest).toArray = arr
  have hasz : arr.size = newCap * es := by
    rw [← harr]
    simp only [List.size_toArray, List.length_append, List.length_map, List.length_range, hrest, hsum]
    rw [← Nat.add_mul]
    congr 1
    omega
  have hget : ∀ c, c < n * es → arr[c]? = some (both (xs.length * es) f g c) := fun c hc => by
    rw [← harr, hsum]
    simp only [List.getElem?_toArray]
    rw [List.getElem?_append_left (by simpa using hc)]
    simp [hc]
  let w' := w.drew.alloc (.cells arr e)
  have hI : ∀ b i v, G.I b i = some v → G'.I b i = some v := fun b i v e => by
    have := h.rel.I_lt e
    simp only [G', Ghost.addRow]
    rw [if_neg (by omega)]
    exact e
  have hk : KeepsOwn (· = .tok k r.toks.length) G w G' w' := fun b o e _ => by
    have hlt := h.rel.ownlt b o e
    refine ⟨by simp only [G']; rw [if_neg (by omega)]; exact e, Below.heap_alloc w.drew _ _ hlt, fun i e => ?_⟩
    simp only [G', Ghost.addRow]
    rw [if_neg (by omega)]
    exact e
  have hle0 : RecLe gr { gr with tk := gr.tk ++ [T] } := ⟨fun b blk e => e, fun g T e => ⟨T, get_old e, .refl T⟩, rfl, fun _ _ e => e, fun _ _ e => e⟩
  have hnew : w'.heap[w.heap.size]? = some (.cells arr e) := World.alloc_heap_new w.drew _
  have hgle : GLe k gr.nl G G' := ⟨hI, fun d q _ e => by
    show ∃ gr', (G.acts.modify k _)[d]? = some gr' ∧ _
    rw [modify_get]
    by_cases hd : k = d
    · subst hd
      rw [hg] at e
      injection e with e
      subst e
      exact ⟨_, by rw [if_pos rfl, hg]; rfl, hle0, fun _ => rfl⟩
    · exact ⟨q, by rw [if_neg hd]; exact e, .refl q, fun _ => rfl⟩, fun _ _ _ e => e⟩
  have hstep := h.rel.onRec (G' := G') (w' := w') hr hg (fun r => { r with toks := r.toks ++ [some n] }) (fun q => { q with tk := q.tk ++ [T] }) (· = .tok k r.toks.length) rfl rfl hI hle0 rfl hk
    (fun o ho => .inr ⟨_, ho⟩) ?_ (fun b i v e => ?_) (((Below.refl _ _).drew).alloc h.rel.low _) (fun b o e => ?_)
  · obtain ⟨hs', hle'⟩ := hstep
    have hlen : (s.addTok k n).acts.length = s.acts.length := by simp [Sig.addTok, Sig.onRec]
    obtain ⟨gc, hgc, hgn⟩ := h.cur
    rw [hg] at hgc
    injection hgc with hgc
    subst hgc
    have hga : G'.acts[k]? = some { gr with tk := gr.tk ++ [T] } := by
      show (G.acts.modify k _)[k]? = _
      rw [modify_get, if_pos rfl, hg]; rfl
    have hgt : ({ gr with tk := gr.tk ++ [T] } : GRec).tk[r.toks.length]? = some T := by
      show (gr.tk ++ [T])[r.toks.length]? = _
      rw [← hrr.tlen, List.getElem?_append_right (Nat.le_refl _)]
      simp
    refine ⟨G', h.to hs' (hle' _ _) hlen, hle' _ _, by simp [Sig.addTok, Sig.onRec], ?_⟩
    rw [hnt]
    have hc : SliceC G'.I es (xs ++ ys) ⟨w.heap.size, 0, none⟩ newCap :=
      both_rel lx ly cx cy (by omega) (fun c hc => by
        simp only [G', Ghost.addRow]
        rw [if_pos trivial, if_pos (by rw [hn]; exact hc)]) (fun i hi j hj => (hx i hi j hj).mono hI) (fun i hi j hj => (hy i hi j hj).mono hI)
    have hl : (xs ++ ys).length = n := by simp [hn]
    have := Rel.tok (G := G') (k := k) (nl := nl) (d := k) (g := r.toks.length) (es := es) (xs := xs ++ ys) (a := ⟨w.heap.size, 0, none⟩) (cap := newCap) T _ (Nat.le_refl _) hga hgt rfl hc
      (fun m hm => by
        simp only [T] at hm
        injection hm with hm
        subst hm
        exact ⟨by omega, fun _ => ⟨rfl, rfl⟩⟩)
    rw [hl] at this
    exact this
  · refine hrr.tokens (toks' := r.toks ++ [some n]) (tk' := gr.tk ++ [T]) hgle hk (by simp [hrr.tlen]) (List.mem_append_left _) (fun g m T' e1 e2 => ?_)
    rcases get_push e1 with ⟨hlt, e1⟩ | ⟨rfl, rfl⟩
    · refine .inl ⟨by omega, e1, ?_⟩
      rcases get_push e2 with ⟨_, e2⟩ | ⟨hb, _⟩
      · exact e2
      · rw [hrr.tlen] at hb; omega
    · have : T' = T := by
        rcases get_push e2 with ⟨hb, _⟩ | ⟨_, e⟩
        · rw [hrr.tlen] at hb; omega
        · exact e
      subst this
      refine .inr ⟨rfl, rfl, fun m hm => ?_⟩
      injection hm with hm
      subst hm
      refine ⟨h.rel.low, by simp [G', T], fun i hi => ?_, hcap, hes, arr, e, hnew, hasz⟩
      simp only [G', Ghost.addRow, T] at hi ⊢
      rw [if_pos trivial, if_neg (by omega)]
  · simp only [G', Ghost.addRow] at e
    split at e
    · rename_i hb
      subst hb
      split at e
      · rename_i hi
        injection e with e
        subst e
        rw [cell_of_heap hnew]
        exact hget i hi
      · cases e
    · rename_i hb
      have := h.rel.imm b i v e
      rw [cells_congr (w := w) (Below.heap_alloc w.drew _ _ (h.rel.I_lt e)) rfl]
      exact this
  · simp only [G'] at e
    split at e
    · rename_i hb; subst hb; simp [w']
    · have := h.rel.ownlt b o e; simp [w']; omega
theorem set_get {α : Type} {l : List α} {i j : Nat} {x y : α} (h : (l.set i x)[j]? = some y) : (j ≠ i ∧ l[j]? = some y) ∨ (j = i ∧ y = x ∧ i < l.length) := by
 rw [List.getElem?_set] at h
 by_cases hij : i = j
 ·rw [if_pos hij] at h
  split at h
  ·injection h with h
   exact .inr ⟨hij.symm, h.symm, by assumption⟩
  ·cases h
 ·rw [if_neg hij] at h
  exact .inl ⟨fun e => hij e.symm, h⟩
theorem set_same {α : Type} {l : List α} {i : Nat} {x y : α} (h : l[i]? = some y) : (l.set i x)[i]? = some x := by
 rw [List.getElem?_set, if_pos rfl, if_pos (List.getElem?_eq_some_iff.1 h).1]
theorem tok_step (h : At P B0 w0 G k nl s w) {d g n m : Nat} {r : Rec} {gr : GRec} {T T' : TokG} {w' : World} {I' : IMap} {own' : Nat → Option Owner} (hd : d ≤ k) (hr : s.acts[d]? = some r) (hg : G.acts[d]? = some gr)
    (hrt : r.toks[g]? = some (some n)) (hgt : gr.tk[g]? = some T) (hT' : T'.n = some m) (hlt : n < m) (hes : T'.es = T.es)
    (hI : ∀ b i v, G.I b i = some v → I' b i = some v) (hk : ∀ b o, G.own b = some o → o ≠ .tok d g → own' b = some o ∧ w'.heap[b]? = w.heap[b]? ∧ ∀ i, G.I b i = none → I' b i = none)
    (hnew : TokRel B0 { G with I := I', acts := G.acts.modify d fun q => { q with tk := q.tk.set g T' }, own := own' } d g (some m) T' w')
    (him : ∀ b i v, I' b i = some v → w'.cell? ⟨b, i, none⟩ = some v) (hb : Below B0 w w') (hol : ∀ b o, own' b = some o → b < w'.heap.size)
    {es : Nat} {xs : List (List AV)} {a : Addr} {cap : Nat} (hee : T'.es = es) (hlen : xs.length = m) (hc : SliceC I' es xs a cap) (ha : a = ⟨T'.blk, 0, none⟩) (hcap : cap = T'.cap) :
    StepTo P B0 w0 G k nl s (s.setTok d g (some m)) w' (.slice (.tok d g) es xs) (.slice (some a) m cap) := by
  have hrr := h.rel.rec_ d r gr hr hg
  have hTn : T.n = some n := (hrr.tok g (some n) T hrt hgt).1
  let G' : Ghost := { G with I := I', acts := G.acts.modify d fun q => { q with tk := q.tk.set g T' }, own := own' }
  have htle : TokLe T T' := ⟨hes, .inr (.inr ⟨n, m, hTn, hT', hlt⟩)⟩
  have hle0 : RecLe gr { gr with tk := gr.tk.set g T' } := ⟨fun b blk e => e, fun j U e => by
    by_cases hj : j = g
    · subst hj
      rw [hgt] at e
      injection e with e
      subst e
      exact ⟨T', set_same hgt, htle⟩
    · exact ⟨U, by show (gr.tk.set g T')[j]? = _; rw [List.getElem?_set, if_neg (fun e => hj e.symm)]; exact e, .refl U⟩, rfl, fun _ _ e => e, fun _ _ e => e⟩
  have hk' : KeepsOwn (· = .tok d g) G w G' w' := hk
  have hgle : GLe d gr.nl G G' := ⟨hI, fun d' q _ e => by
    show ∃ gr', (G.acts.modify d _)[d']? = some gr' ∧ _
    rw [modify_get]
    by_cases hdd : d = d'
    · subst hdd
      rw [hg] at e
      injection e with e
      subst e
      exact ⟨_, by rw [if_pos rfl, hg]; rfl, hle0, fun _ => rfl⟩
    · exact ⟨q, by rw [if_neg hdd]; exact e, .refl q, fun _ => rfl⟩, fun _ _ _ e => e⟩
  have hstep := h.rel.onRec (G' := G') (w' := w') hr hg (fun r => { r with toks := r.toks.set g (some m) }) (fun q => { q with tk := q.tk.set g T' }) (· = .tok d g) rfl rfl hI hle0 rfl hk'
    (fun o ho => .inr ⟨_, ho⟩) ?_ him hb hol
  · obtain ⟨hs', hle'⟩ := hstep
    have hlen' : (s.setTok d g (some m)).acts.length = s.acts.length := by simp [Sig.setTok, Sig.onRec]
    have hga : G'.acts[d]? = some { gr with tk := gr.tk.set g T' } := by
      show (G.acts.modify d _)[d]? = _
      rw [modify_get, if_pos rfl, hg]; rfl
    refine ⟨G', h.to hs' (hle' _ _) hlen', hle' _ _, by simp [Sig.setTok, Sig.onRec], ?_⟩
    have := Rel.tok (G := G') (k := k) (nl := nl) (d := d) (g := g) (es := es) (xs := xs) (a := a) (cap := cap) T' _ hd hga (set_same hgt) hee hc
      (fun p hp => by
        rw [hT'] at hp
        injection hp with hp
        subst hp
        exact ⟨by omega, fun _ => ⟨ha, hcap⟩⟩)
    rw [hlen] at this
    exact this
  · refine hrr.tokens (toks' := r.toks.set g (some m)) (tk' := gr.tk.set g T') hgle hk' (by simp [hrr.tlen]) (fun hm => none_set hm (.inr ⟨_, hrt⟩)) (fun j p U e1 e2 => ?_)
    rcases set_get e1 with ⟨hne, e1⟩ | ⟨rfl, rfl, _⟩
    · rcases set_get e2 with ⟨_, e2⟩ | ⟨hj, _⟩
      · exact .inl ⟨hne, e1, e2⟩
      · exact absurd hj hne
    · rcases set_get e2 with ⟨hj, _⟩ | ⟨_, rfl, _⟩
      · exact absurd rfl hj
      · exact .inr ⟨rfl, hnew⟩
theorem append_room (h : At P B0 w0 G k nl s w) {d g n es : Nat} {xs ys : List (List AV)} {fx fy : Nat → Value} {r : Rec} {gr : GRec} {T : TokG} (hd : d ≤ k) (hr : s.acts[d]? = some r) (hg : G.acts[d]? = some gr)
  (hrt : r.toks[g]? = some (some xs.length)) (hgt : gr.tk[g]? = some T) (hTe : T.es = es) (hes : 0 < es) (hn : n = xs.length + ys.length) (hy0 : 0 < ys.length) (hroom : n ≤ T.cap)
  (lx : ∀ r, r ∈ xs → r.length = es) (ly : ∀ r, r ∈ ys → r.length = es) (cx : ∀ r, r ∈ xs → ∀ c, c ∈ r → c.isCell = true) (cy : ∀ r, r ∈ ys → ∀ c, c ∈ r → c.isCell = true)
  (hxI : ∀ c, c < xs.length * es → G.I T.blk c = some (fx c))
  (hx : ∀ i (hi : i < xs.length) j (hj : j < xs[i].length), RelC G.I (xs[i][j]) (fx (i * es + j))) (hy : ∀ i (hi : i < ys.length) j (hj : j < ys[i].length), RelC G.I (ys[i][j]) (fy (i * es + j))) :
  StepTo P B0 w0 G k nl s (s.setTok d g (some n)) (w.setCells T.blk (xs.length * es) ((List.range (ys.length * es)).map fy)) (.slice (.tok d g) es (xs ++ ys)) (.slice (some ⟨T.blk, 0, none⟩) n T.cap) := by
 have hrr := h.rel.rec_ d r gr hr hg
 have hTR := hrr.tok g (some xs.length) T hrt hgt
 obtain ⟨hTn, hT2⟩ := hTR
 obtain ⟨t1, t2, t3, t4, t5, arr, ty, t6, t7⟩ := hT2 _ rfl
 rw [hTe] at t3 t7
 have hsum : n * es = xs.length * es + ys.length * es := by rw [hn, Nat.add_mul]
 let I' : IMap := fun b i => if b = T.blk ∧ xs.length * es ≤ i ∧ i < n * es then some (fy (i - xs.length * es)) else G.I b i
 have hI : ∀ b i v, G.I b i = some v → I' b i = some v := fun b i v e => by
  simp only [I']
  split
  ·rename_i hc
   obtain ⟨rfl, h1, _⟩ := hc
   rw [t3 i h1] at e
   cases e
  ·exact e
 have hbelow : Below B0 w (w.setCells T.blk (xs.length * es) ((List.range (ys.length * es)).map fy)) := below_setCells t1 _ _ _
 have hnewheap := heap_setCells ((List.range (ys.length * es)).map fy) (xs.length * es) arr w t6
 have hother : ∀ b, b ≠ T.blk → (w.setCells T.blk (xs.length * es) ((List.range (ys.length * es)).map fy)).heap[b]? = w.heap[b]? := fun b hb => heap_setCells_other hb _ _ _
 have harrle : n * es ≤ arr.size := by rw [t7]; exact Nat.mul_le_mul_right _ hroom
 have hin := World.cell?_setCells_in T.blk ((List.range (ys.length * es)).map fy) (xs.length * es) w (fun j hj => by
  rw [cell_of_heap t6]
  have hj' : j < ys.length * es := by simpa using hj
  simp; omega)
 refine tok_step h (T := T) (T' := { T with n := some n }) (I' := I') (own' := G.own) hd hr hg hrt hgt rfl (by omega) rfl hI (fun b o ho hne => ?_) ?_ (fun b i v e => ?_) hbelow (fun b o ho => ?_) hTe (by simp [hn]) ?_ rfl rfl
 ·have hb : b ≠ T.blk := by
   rintro rfl
   rw [t2] at ho
   injection ho with ho
   exact hne ho.symm
  refine ⟨ho, hother b hb, fun i e => ?_⟩
  simp only [I']
  rw [if_neg (fun hc => hb hc.1)]
  exact e
 ·refine ⟨rfl, fun p hp => ?_⟩
  injection hp with hp
  subst hp
  refine ⟨t1, t2, fun i hi => ?_, hroom, t5, _, ty, hnewheap, by rw [setA_size, t7, hTe]⟩
  simp only [hTe] at hi
  simp only [I']
  rw [if_neg (fun hc => by omega)]
  exact t3 i (by omega)
 ·simp only [I'] at e
  split at e
  ·rename_i hc
   obtain ⟨rfl, h1, h2⟩ := hc
   injection e with e
   subst e
   have := hin (i - xs.length * es) (by simp; omega)
   rw [show xs.length * es + (i - xs.length * es) = i by omega] at this
   rw [this]
   simp
  ·rename_i hc
   have hv := h.rel.imm b i v e
   rw [World.cell?_setCells_out]
   ·exact hv
   ·intro hb _
    have hb : b = T.blk := hb
    subst hb
    simp only [List.length_map, List.length_range]
    rcases Nat.lt_or_ge i (xs.length * es) with h1 | h1
    ·exact .inl h1
    ·exact .inr (by
      have : ¬ i < n * es := fun h2 => hc ⟨rfl, h1, h2⟩
      show xs.length * es + ys.length * es ≤ i
      omega)
 ·rw [size_setCells]
  exact h.rel.ownlt b o ho
 ·refine both_rel (f := fx) (g := fy) lx ly cx cy (by omega) (fun c hc => ?_) (fun i hi j hj => (hx i hi j hj).mono hI) (fun i hi j hj => (hy i hi j hj).mono hI)
  rw [← hn] at hc
  simp only [I', both]
  by_cases hlt : c < xs.length * es
  ·rw [if_neg (fun hh => by omega), if_pos hlt]
   exact hxI c hlt
  ·rw [if_pos ⟨trivial, by omega, hc⟩, if_neg hlt]
theorem append_move (h : At P B0 w0 G k nl s w) {d g n es : Nat} {xs ys : List (List AV)} {f fy : Nat → Value} {r : Rec} {gr : GRec} {T : TokG} {newCap : Nat} {rest : List Value} {e : TypeId} (hd : d ≤ k) (hr : s.acts[d]? = some r) (hg : G.acts[d]? = some gr)
  (hrt : r.toks[g]? = some (some xs.length)) (hgt : gr.tk[g]? = some T) (hTe : T.es = es) (hes : 0 < es) (hn : n = xs.length + ys.length) (hy0 : 0 < ys.length)
  (lx : ∀ r, r ∈ xs → r.length = es) (ly : ∀ r, r ∈ ys → r.length = es) (cx : ∀ r, r ∈ xs → ∀ c, c ∈ r → c.isCell = true) (cy : ∀ r, r ∈ ys → ∀ c, c ∈ r → c.isCell = true)
  (hx : ∀ i (hi : i < xs.length) j (hj : j < xs[i].length), RelC G.I (xs[i][j]) (f (i * es + j))) (hy : ∀ i (hi : i < ys.length) j (hj : j < ys[i].length), RelC G.I (ys[i][j]) (fy (i * es + j)))
  (hcap : n ≤ newCap) (hrest : rest.length = (newCap - n) * es) :
  StepTo P B0 w0 G k nl s (s.setTok d g (some n)) (w.drew.alloc (.cells ((List.range (xs.length * es + ys.length * es)).map (both (xs.length * es) f fy) ++ rest).toArray e))
   (.slice (.tok d g) es (xs ++ ys)) (.slice (some ⟨w.heap.size, 0, none⟩) n newCap) := by
 have hrr := h.rel.rec_ d r gr hr hg
 obtain ⟨hTn, hT2⟩ := hrr.tok g (some xs.length) T hrt hgt
 obtain ⟨t1, t2, t3, t4, t5, _, _, t6, _⟩ := hT2 _ rfl
 have hTlt : T.blk < w.heap.size := (Array.getElem?_eq_some_iff.1 t6).1
 have hsum : xs.length * es + ys.length * es = n * es := by rw [hn, Nat.add_mul]
 generalize harr : ((List.range (xs.length * es + ys.length * es)).map (both (xs.length * es) f fy) ++ rest).toArray = arr
 have hasz : arr.size = newCap * es := by
  rw [← harr]
  simp only [List.size_toArray, List.length_append, List.length_map, List.length_range, hrest, hsum]
  rw [← Nat.add_mul]
  congr 1
  omega
 have hget : ∀ c, c < n * es → arr[c]? = some (both (xs.length * es) f fy c) := fun c hc => by
  rw [← harr, hsum]
  simp only [List.getElem?_toArray]
  rw [List.getElem?_append_left (by simpa using hc)]
  simp [hc]
 have hnew : (w.drew.alloc (.cells arr e)).heap[w.heap.size]? = some (.cells arr e) := World.alloc_heap_new w.drew _
 let I' : IMap := G.addRow w.heap.size (n * es) (both (xs.length * es) f fy)
 have hI : ∀ b i v, G.I b i = some v → I' b i = some v := fun b i v e => by
  have := h.rel.I_lt e
  simp only [I', Ghost.addRow]
  rw [if_neg (by omega)]
  exact e
 refine tok_step h (T := T) (T' := ⟨some n, w.heap.size, newCap, es⟩) (I' := I') (own' := fun b => if b = w.heap.size then some (.tok d g) else if b = T.blk then none else G.own b) hd hr hg hrt hgt rfl (by omega) hTe.symm hI
  (fun b o ho hne => ?_) ?_ (fun b i v e => ?_) (((Below.refl _ _).drew).alloc h.rel.low _) (fun b o ho => ?_) rfl (by simp [hn]) ?_ rfl rfl
 ·have hlt := h.rel.ownlt b o ho
  have hb : b ≠ T.blk := by
   rintro rfl
   rw [t2] at ho
   injection ho with ho
   exact hne ho.symm
  refine ⟨by rw [if_neg (by omega), if_neg hb]; exact ho, Below.heap_alloc w.drew _ _ hlt, fun i e => ?_⟩
  simp only [I', Ghost.addRow]
  rw [if_neg (by omega)]
  exact e
 ·refine ⟨rfl, fun p hp => ?_⟩
  injection hp with hp
  subst hp
  refine ⟨h.rel.low, by simp, fun i hi => ?_, hcap, hes, arr, e, hnew, hasz⟩
  simp only [I', Ghost.addRow] at hi ⊢
  rw [if_pos trivial, if_neg (by omega)]
 ·simp only [I', Ghost.addRow] at e
  split at e
  ·rename_i hb
   subst hb
   split at e
   ·rename_i hi
    injection e with e
    subst e
    rw [cell_of_heap hnew]
    exact hget i hi
   ·cases e
  ·rename_i hb
   have := h.rel.imm b i v e
   rw [cells_congr (w := w) (Below.heap_alloc w.drew _ _ (h.rel.I_lt e)) rfl]
   exact this
 ·split at ho
  ·rename_i hb; subst hb; simp
  ·split at ho
   ·cases ho
   ·have := h.rel.ownlt b o ho; simp; omega
 ·refine both_rel (f := f) (g := fy) lx ly cx cy (by omega) (fun c hc => ?_) (fun i hi j hj => (hx i hi j hj).mono hI) (fun i hi j hj => (hy i hi j hj).mono hI)
  simp only [I', Ghost.addRow]
  rw [if_pos trivial, if_pos (by rw [hn]; exact hc)]
theorem addr_eta {a : Addr} (h : a.spot = none) : a = ⟨a.block, a.off, none⟩ := by
 cases a
 cases h
 rfl
theorem append_sound (h : At P B0 w0 G k nl s w) {t u e ty : TypeId} {es by_ : Nat} {z : Value} (hT : ElemT P t e es by_ z) (hu : ∃ e', P.underlying u = some (.slice e')) {a b v : AV} {x y : Value} {s' : Sig}
  (hx : Rel G k nl a x) (hy : Rel G k nl b y) (ha : appendOp s es a b = some (v, s')) :
  ∃ x' w', (Builtin.append_ #[t, u] ty #[x, y]).run P w = .ok x' w' ∧ StepTo P B0 w0 G k nl s s' w' v x' := by
 unfold appendOp at ha
 split at ha
 case h_2 => cases ha
 rename_i o e1 xs oy e2 ys
 split at ha
 ·rename_i hys
  have hys : ys = [] := by simpa using hys
  subst hys
  injection ha with ha
  injection ha with h1 h2
  subst h1 h2
  have hself : StepTo P B0 w0 G k nl s s w (.slice o e1 xs) x := ⟨G, h, GLe.refl _ _ _, rfl, hx⟩
  have hyc : ∃ bb c, y = .slice bb 0 c := by
   rcases hy.inv_slice with ⟨_, _, rfl⟩ | ⟨_, aa, c, rfl, _⟩
   ·exact ⟨_, _, rfl⟩
   ·exact ⟨_, _, rfl⟩
  obtain ⟨bb, c, rfl⟩ := hyc
  rcases hx.inv_slice with ⟨_, _, rfl⟩ | ⟨_, aa, cap, rfl, _, hle, _⟩
  ·exact ⟨_, w, append_none_run hT hu none bb c (Nat.le_refl _), hself⟩
  ·exact ⟨_, w, append_none_run hT hu (some aa) bb c hle, hself⟩
 ·rename_i hys
  split at ha
  case isFalse => cases ha
  rename_i hcond
  obtain ⟨rfl, he1, hmost⟩ := hcond
  have hy0 : 0 < ys.length := by
   cases ys with
   | nil => simp at hys
   | cons => simp
  rcases hy.inv_slice with ⟨_, hn, _⟩ | ⟨_, ay, cy, rfl, _, _, hyc, _⟩
  ·rw [hn] at hy0; simp at hy0
  obtain ⟨hys', hcy, ly, ccy, fy, hyI, hyR⟩ := SliceC.flat hyc hT.pos
  have hay : ay = ⟨ay.block, ay.off, none⟩ := addr_eta (hys' (by omega))
  have hgy : ∀ c, c < ys.length * e2 → w.cell? (ay.add c) = some (fy c) := fun c hc => by
   rw [hay, addr_add]; exact h.rel.imm _ _ _ (hyI c hc)
  cases o with
  | any => cases ha
  | nilS =>
   injection ha with ha
   injection ha with h1 h2
   subst h1 h2
   rcases hx.inv_slice with ⟨_, rfl, rfl⟩ | ⟨hne, _⟩
   ·obtain ⟨newCap, rest, hcap, hrest, hrun⟩ := append_grow_run (P := P) (w := w) (ty := ty) (n := 0) (m := ys.length) (cap := 0) (c := cy) (base := none) (a := ay) (f := fun _ => Go.undef) (g := fy) hT hu (by omega)
     (big_most hT (by omega) (by simpa using hmost)) (fun _ e => by cases e) (fun _ => rfl) hgy
    refine ⟨_, _, hrun, ?_⟩
    have := append_new h (xs := []) (ys := ys) (f := fun _ => Go.undef) (g := fy) (n := ys.length) (newCap := newCap) (rest := rest) (e := e) hT.pos (by simp) (by simp) ly (by simp) ccy (by simp) hyR (by omega) (by simpa using hrest)
    rw [h.cur_eq]
    simpa using this
   ·exact absurd rfl hne
  | full =>
   injection ha with ha
   injection ha with h1 h2
   subst h1 h2
   rcases hx.inv_slice with ⟨hne, _⟩ | ⟨_, ax, cx, rfl, _, _, hxc, hfull⟩
   ·cases hne
   have hcx := hfull rfl
   subst hcx
   have : e1 = e2 := by
    rcases he1 with h | h
    ·cases h
    ·exact h
   subst this
   obtain ⟨hxs', _, lx, ccx, fx, hxI, hxR⟩ := SliceC.flat hxc hT.pos
   have hax : ∀ c, c < xs.length * e1 → ax = ⟨ax.block, ax.off, none⟩ := fun c hc => addr_eta (hxs' (by
    rcases Nat.eq_zero_or_pos xs.length with h0 | h0
    ·rw [h0] at hc; simp at hc
    ·exact h0))
   obtain ⟨newCap, rest, hcap, hrest, hrun⟩ := append_grow_run (P := P) (w := w) (ty := ty) (n := xs.length) (m := ys.length) (cap := xs.length) (c := cy) (base := some ax) (a := ay) (f := fx) (g := fy) hT hu (by omega)
    (big_most hT (by omega) hmost) (fun b e c hc => by injection e with e; subst e; rw [hax c hc, addr_add]; exact h.rel.imm _ _ _ (hxI c hc)) (fun e => by cases e) hgy
   refine ⟨_, _, hrun, ?_⟩
   rw [h.cur_eq]
   exact append_new h hT.pos rfl lx ly ccx ccy hxR hyR hcap hrest
  | tok d g =>
   simp only at ha
   split at ha
   case isFalse => cases ha
   rename_i htok
   injection ha with ha
   injection ha with h1 h2
   subst h1 h2
   have : e1 = e2 := by
    rcases he1 with h | h
    ·cases h
    ·exact h
   subst this
   cases hx with
   | cl hx => cases hx with
    | slice f ho => rcases ho with h | ⟨h, _⟩ <;> cases h
    | empty ho => rcases ho with h | h <;> cases h
   | tok T gr hd hg ht hes hxc hn =>
   rename_i ax cx
   obtain ⟨r, gr', hr, hg'⟩ := h.rec_ hd
   rw [hg] at hg'
   injection hg' with hg'
   subst hg'
   have hrr := h.rel.rec_ d r gr hr hg
   have hrt : r.toks[g]? = some (some xs.length) := by
    have := htok.2
    simp only [Sig.tok, hr, Option.bind_some] at this
    cases hq : r.toks[g]? with
    | none => rw [hq] at this; cases this
    | some q => rw [hq] at this; simp only [Option.join_some] at this; rw [this]
   obtain ⟨hTn, hT2⟩ := hrr.tok g (some xs.length) T hrt ht
   obtain ⟨hle, heq⟩ := hn _ hTn
   obtain ⟨rfl, rfl⟩ := heq rfl
   obtain ⟨_, _, lx, ccx, fx, hxI, hxR⟩ := SliceC.flat hxc hT.pos
   obtain ⟨_, _, _, _, _, arr, tb, t6, t7⟩ := hT2 _ rfl
   by_cases hroom : xs.length + ys.length ≤ T.cap
   ·refine ⟨_, _, append_room_run (P := P) (ty := ty) (n := xs.length) (m := ys.length) (c := cy) (a := ay) (g := fy) hT hu hroom hgy t6 (by rw [t7, hes]; exact Nat.mul_le_mul_right _ hroom) (fun c hc => ?_), ?_⟩
    ·have h1 : c / e1 < ys.length := by rw [Nat.div_lt_iff_lt_mul hT.pos]; exact hc
     have h2 : c % e1 < (ys[c / e1]).length := by rw [ly _ (List.getElem_mem h1)]; exact Nat.mod_lt _ hT.pos
     have hr := hyR _ h1 _ h2
     rw [Nat.div_add_mod'] at hr
     exact oneCell_of_rel (G := G) (k := k) (nl := nl) (.cl hr) (ccy _ (List.getElem_mem h1) _ (List.getElem_mem h2))
    ·exact append_room h hd hr hg hrt ht hes hT.pos rfl hy0 hroom lx ly ccx ccy (fun c hc => by have := hxI c hc; simpa using this) hxR hyR
   ·obtain ⟨newCap, rest, hcap, hrest, hrun⟩ := append_grow_run (P := P) (w := w) (ty := ty) (n := xs.length) (m := ys.length) (cap := T.cap) (c := cy) (base := some ⟨T.blk, 0, none⟩) (a := ay) (f := fx) (g := fy) hT hu hroom
     (big_most hT (by omega) hmost) (fun b e c hc => by injection e with e; subst e; rw [addr_add]; exact h.rel.imm _ _ _ (hxI c hc)) (fun e => by cases e) hgy
    refine ⟨_, _, hrun, ?_⟩
    exact append_move h hd hr hg hrt ht hes hT.pos rfl hy0 lx ly ccx ccy hxR hyR hcap hrest
end
end Go.Ax
