/-
  Memory: an activation's record is changed; new boxes; rights to append are made, moved and dropped.
-/
import Derived.Test.YthbdbiapgipikaaGreatDoorT1
import Derived.Laws.IdiomCopy
namespace Go.Ax
open Go.RowKit
section
variable {P : Program} {B0 : Nat} {w0 : World} {G G' : Ghost} {k nl : Nat} {w w' : World} {s : Sig}
theorem SRel.onRec (h : SRel P B0 w0 G s w) {d0 : Nat} {r0 : Rec} {gr0 : GRec} (hr : s.acts[d0]? = some r0) (hg : G.acts[d0]? = some gr0) (f : Rec → Rec) (gf : GRec → GRec) (X : Owner → Prop)
  (hG : G'.acts = G.acts.modify d0 gf) (hL : G'.loops = G.loops) (hI : ∀ b i v, G.I b i = some v → G'.I b i = some v) (hle0 : RecLe gr0 (gf gr0)) (hm0 : (gf gr0).marks = gr0.marks)
  (hk : KeepsOwn X G w G' w') (hX : ∀ o, X o → (∃ b, o = .box d0 b) ∨ ∃ g, o = .tok d0 g) (hrec0 : RecRel B0 G' d0 (f r0) (gf gr0) w')
  (him : ∀ b i v, G'.I b i = some v → w'.cell? ⟨b, i, none⟩ = some v) (hb : Below B0 w w') (hol : ∀ b o, G'.own b = some o → b < w'.heap.size) :
  SRel P B0 w0 G' (s.onRec d0 f) w' ∧ ∀ k nl, GLe k nl G G' := by
 have hle : ∀ k nl, GLe k nl G G' := fun k nl => ⟨hI, fun d gr _ e => by
  rw [hG, modify_get]
  by_cases hd : d0 = d
  ·subst hd
   rw [hg] at e
   injection e with e
   subst e
   exact ⟨_, by rw [if_pos rfl, hg]; rfl, hle0, fun _ => hm0⟩
  ·exact ⟨gr, by rw [if_neg hd]; exact e, .refl gr, fun _ => rfl⟩, fun l r _ e => by rw [hL]; exact e⟩
 have hback : ∀ (d : Nat) (gr' : GRec), G'.acts[d]? = some gr' → ∃ gr : GRec, G.acts[d]? = some gr ∧ gr'.nl = gr.nl := fun d gr' e => by
  rw [hG, modify_get] at e
  by_cases hd : d0 = d
  ·subst hd
   rw [if_pos rfl, hg] at e
   simp only [Option.map_some, Option.some.injEq] at e
   subst e
   exact ⟨gr0, hg, hle0.nl⟩
  ·rw [if_neg hd] at e
   exact ⟨gr', e, rfl⟩
 refine ⟨⟨him, by simp only [hG, Sig.onRec, List.length_modify]; exact h.len, by rw [hL]; exact h.llen, fun d r gr h1 h2 => ?_, fun l lp r h1 h2 => ?_, fun d gr e => ?_, fun d d' gr gr' hd e e' => ?_, h.below.trans hb, Nat.le_trans h.low hb.size, hol⟩, hle⟩
 ·simp only [Sig.onRec, modify_get] at h1
  rw [hG, modify_get] at h2
  by_cases hd : d0 = d
  ·subst hd
   rw [if_pos rfl, hr] at h1
   rw [if_pos rfl, hg] at h2
   simp only [Option.map_some, Option.some.injEq] at h1 h2
   subst h1 h2
   exact hrec0
  ·rw [if_neg hd] at h1 h2
   refine (h.rec_ d r gr h1 h2).keep (hle _ _) hk (fun o ho => ?_)
   rcases hX o ho with ⟨b, rfl⟩ | ⟨g, rfl⟩
   ·refine ⟨fun b' e => ?_, fun g e => ?_, fun i e => ?_⟩
    ·injection e with e; exact hd e
    ·cases e
    ·cases e
   ·refine ⟨fun b' e => ?_, fun g e => ?_, fun i e => ?_⟩
    ·cases e
    ·injection e with e; exact hd e
    ·cases e
 ·rw [hL] at h2
  have hr' := h.loop l lp r h1 h2
  obtain ⟨k1, k2, _⟩ := hk _ _ hr'.2.1 (fun hx => by rcases hX _ hx with ⟨b, e⟩ | ⟨g, e⟩ <;> cases e)
  exact hr'.keep (fun k nl _ _ => hle k nl) (by rw [hG, List.length_modify]; exact Nat.le_refl _) k1 k2
 ·obtain ⟨gr0', e0, e1⟩ := hback d gr e
  rw [e1]
  exact h.nls d gr0' e0
 ·obtain ⟨a, e0, e1⟩ := hback d gr e
  obtain ⟨b, e2, e3⟩ := hback d' gr' e'
  rw [e1, e3]
  exact h.nlm d d' a b hd e0 e2
def StepTo (P : Program) (B0 : Nat) (w0 : World) (G : Ghost) (k nl : Nat) (s s' : Sig) (w' : World) (x : AV) (x' : Value) : Prop :=
 ∃ G', At P B0 w0 G' k nl s' w' ∧ GLe (k + 1) s.loops.length G G' ∧ s'.loops.length = s.loops.length ∧ Rel G' k nl x x'
theorem At.to {G' : Ghost} {s' : Sig} (h : At P B0 w0 G k nl s w) (hr : SRel P B0 w0 G' s' w') (hle : GLe k nl G G') (hl : s'.acts.length = s.acts.length) : At P B0 w0 G' k nl s' w' := by
 obtain ⟨gr, h1, h2⟩ := h.cur
 obtain ⟨gr', h3, h4, _⟩ := hle.acts k gr (Nat.le_refl _) h1
 exact ⟨hr, hl.trans h.len, gr', h3, h4.nl.trans h2⟩
theorem At.rec_ (h : At P B0 w0 G k nl s w) {d : Nat} (hd : d ≤ k) : ∃ r gr, s.acts[d]? = some r ∧ G.acts[d]? = some gr := by
 have h1 : d < s.acts.length := by rw [h.len]; omega
 have h2 : d < G.acts.length := by rw [h.rel.len]; exact h1
 exact ⟨_, _, List.getElem?_eq_getElem h1, List.getElem?_eq_getElem h2⟩
theorem get_push {α : Type} {l : List α} {b : Nat} {x y : α} (h : (l ++ [x])[b]? = some y) : (b < l.length ∧ l[b]? = some y) ∨ (b = l.length ∧ y = x) := by
 rcases Nat.lt_or_ge b l.length with hb | hb
 ·rw [List.getElem?_append_left hb] at h; exact .inl ⟨hb, h⟩
 ·rw [List.getElem?_append_right hb] at h
  have : b - l.length = 0 := by
   have := (List.getElem?_eq_some_iff.1 h).1
   simp at this; omega
  rw [this] at h
  simp at h
  exact .inr ⟨by omega, h.symm⟩
theorem get_old {α : Type} {l : List α} {b : Nat} {x y : α} (h : l[b]? = some y) : (l ++ [x])[b]? = some y := by
 rw [List.getElem?_append_left (List.getElem?_eq_some_iff.1 h).1]; exact h
theorem newBox_sound (h : At P B0 w0 G k nl s w) {cs : List AV} {arr : Array Value} (ty : TypeId) (z : Option Nat) (hz : ∀ n, z = some n → arr.size = n) (hne : cs ≠ []) (hcell : ∀ c, c ∈ cs → c.isCell = true) (hR : RowLe (Rel G k nl) cs arr) :
  StepTo P B0 w0 G k nl s (s.newBox cs).2 (w.alloc (.cells arr ty)) (s.newBox cs).1 (.pointer (some ⟨w.heap.size, 0, none⟩)) ∧
  StepTo P B0 w0 G k nl s (s.newBox cs).2 (w.alloc (.cells arr ty)) (.rsl s.cur (s.nbox s.cur) 0 0 0 0) (.slice (some ⟨w.heap.size, 0, none⟩) 0 0) ∧
  ∀ es n cap rc, n ≤ rc → cap ≤ rc → (cap = 0 → 0 < n → z = some (rc * es)) → StepTo P B0 w0 G k nl s (s.newBox cs).2 (w.alloc (.cells arr ty)) (.rsl s.cur (s.nbox s.cur) 0 es n cap) (.slice (some ⟨w.heap.size, 0, none⟩) n rc) := by
 obtain ⟨r, gr, hr, hg⟩ := h.rec_ (Nat.le_refl k)
 have hnl : gr.nl = nl := by obtain ⟨g', e1, e2⟩ := h.cur; rw [hg] at e1; injection e1 with e1; rw [e1]; exact e2
 have hrr := h.rel.rec_ k r gr hr hg
 let G' : Ghost := { G with acts := G.acts.modify k fun q => { q with bl := q.bl ++ [some w.heap.size], gs := fun b => if b = r.boxes.length then z else q.gs b }, own := fun b => if b = w.heap.size then some (.box k r.boxes.length) else G.own b }
 have hk : KeepsOwn (fun _ => False) G w G' (w.alloc (.cells arr ty)) := fun b o e _ => by
  have hlt := h.rel.ownlt b o e
  exact ⟨by simp only [G']; rw [if_neg (by omega)]; exact e, Below.heap_alloc _ _ _ hlt, fun _ e => e⟩
 have hle0 : RecLe gr { gr with bl := gr.bl ++ [some w.heap.size], gs := fun b => if b = r.boxes.length then z else gr.gs b } := ⟨fun b blk e => get_old e, fun g T e => ⟨T, e, .refl T⟩, rfl, fun b n e => by
  obtain ⟨blk, hb⟩ := hrr.gsl b n e
  have := (List.getElem?_eq_some_iff.1 hb).1
  rw [hrr.blen] at this
  simp only
  rw [if_neg (by omega)]; exact e⟩
 have hnew : (w.alloc (.cells arr ty)).heap[w.heap.size]? = some (.cells arr ty) := World.alloc_heap_new w _
 have hle : GLe k nl G G' := ⟨fun _ _ _ e => e, fun d q _ e => by
  simp only [G', modify_get]
  by_cases hd : k = d
  ·subst hd
   rw [hg] at e
   injection e with e
   subst e
   exact ⟨_, by rw [if_pos rfl, hg]; rfl, hle0, fun _ => rfl⟩
  ·exact ⟨q, by rw [if_neg hd]; exact e, .refl q, fun _ => rfl⟩, fun _ _ _ e => e⟩
 have hstep := h.rel.onRec (G' := G') (w' := w.alloc (.cells arr ty)) hr hg (fun r => { r with boxes := r.boxes ++ [cs] }) (fun q => { q with bl := q.bl ++ [some w.heap.size], gs := fun b => if b = r.boxes.length then z else q.gs b }) (fun _ => False) rfl rfl (fun _ _ _ e => e) hle0 rfl hk
  (fun o ho => ho.elim) ?_ (fun b i v e => ?_) ((Below.refl _ _).alloc h.rel.low _) (fun b o e => ?_)
 ·obtain ⟨hs, hle'⟩ := hstep
  have hs' : SRel P B0 w0 G' (s.newBox cs).2 (w.alloc (.cells arr ty)) := by
   simp only [Sig.newBox, h.cur_eq, Sig.addBox]
   exact hs
  have hlen : (s.newBox cs).2.acts.length = s.acts.length := by simp [Sig.newBox, Sig.addBox, Sig.onRec]
  have hat := h.to hs' hle hlen
  have hnb : s.nbox s.cur = r.boxes.length := by simp [Sig.nbox, h.cur_eq, hr]
  have hga : G'.acts[k]? = some { gr with bl := gr.bl ++ [some w.heap.size], gs := fun b => if b = r.boxes.length then z else gr.gs b } := by
   show (G.acts.modify k _)[k]? = _
   rw [modify_get, if_pos rfl, hg]; rfl
  have hgb : ({ gr with bl := gr.bl ++ [some w.heap.size], gs := fun b => if b = r.boxes.length then z else gr.gs b } : GRec).bl[r.boxes.length]? = some (some w.heap.size) := by
   show (gr.bl ++ [some w.heap.size])[r.boxes.length]? = _
   rw [← hrr.blen, List.getElem?_append_right (Nat.le_refl _)]
   simp
  have hll : (s.newBox cs).2.loops.length = s.loops.length := by simp [Sig.newBox, Sig.addBox, Sig.onRec]
  refine ⟨⟨G', hat, hle' _ _, hll, ?_⟩, ⟨G', hat, hle' _ _, hll, ?_⟩, fun es n cap rc hn hc hw => ⟨G', hat, hle' _ _, hll, ?_⟩⟩
  ·simp only [Sig.newBox, h.cur_eq]
   rw [h.cur_eq] at hnb
   rw [hnb]
   exact .ptr _ (Nat.le_refl _) hga hgb
  ·rw [hnb, h.cur_eq]
   exact .rsl _ (Nat.le_refl _) hga hgb (Nat.le_refl _) (Nat.le_refl _) (fun _ h => absurd h (Nat.lt_irrefl _)) (fun _ => rfl)
  ·rw [hnb, h.cur_eq]
   exact .rsl _ (Nat.le_refl _) hga hgb hn hc (fun e1 e2 => by simp only; rw [if_pos trivial]; exact hw e1 e2) (fun _ => rfl)
 ·refine ⟨by simp [hrr.blen], hrr.tlen, fun b cs' blk e1 e2 => ?_, fun b blk e1 e2 => ?_, fun g n T e1 e2 => ?_, fun i b e1 => ?_, fun b n e1 => ?_⟩
  ·rcases get_push e1 with ⟨hb, e1⟩ | ⟨hb, rfl⟩
   ·have e2' : gr.bl[b]? = some (some blk) := by
     rcases get_push e2 with ⟨_, e2⟩ | ⟨hb', _⟩
     ·exact e2
     ·rw [hrr.blen] at hb'; omega
    have hbx := (hrr.box b cs' blk e1 e2').kept (by rw [hnl]; exact hle) hk (fun _ x => x)
    show BoxRel B0 G' k gr.nl b (if b = r.boxes.length then z else gr.gs b) cs' blk _
    rw [if_neg (by omega)]; exact hbx
   ·have : blk = w.heap.size := by
     rcases get_push e2 with ⟨hb', _⟩ | ⟨_, e⟩
     ·rw [hrr.blen] at hb'; omega
     ·injection e
    subst this
    subst hb
    refine ⟨h.rel.low, ⟨_, by simp [G'], fun _ => rfl⟩, fun _ => h.rel.I_new, arr, ty, hnew, hR.1, fun _ n hn => hz n (by simpa using hn), fun i hi => ⟨hcell _ (List.getElem_mem hi), ?_⟩⟩
    have := (hR.2 i hi).mono hle (Nat.le_refl _) (Nat.le_refl _)
    show Rel G' k gr.nl _ _
    rw [hnl]
    exact this
  ·rcases get_push e2 with ⟨hb, e2⟩ | ⟨hb, e2⟩
   ·have e1' : gr.bl[b]? = some (some blk) := by
     rcases get_push e1 with ⟨_, e1⟩ | ⟨hb', _⟩
     ·exact e1
     ·rw [hrr.blen] at hb'; omega
    exact hrr.full b blk e1' e2
   ·exact absurd e2.symm hne
  ·have ht := hrr.tok g n T e1 e2
   have hs : ∀ (hn : n.isSome = true), G'.own T.blk = some (.tok k g) ∧ (w.alloc (.cells arr ty)).heap[T.blk]? = w.heap[T.blk]? ∧ ∀ i, G.I T.blk i = none → G'.I T.blk i = none := fun hn => by
    obtain ⟨m, hm⟩ := Option.isSome_iff_exists.1 hn
    exact hk _ _ (ht.2 m hm).2.1 (fun x => x)
   exact ht.keep (fun hn => (hs hn).1) (fun hn => (hs hn).2.1) (fun hn => (hs hn).2.2)
  ·have hm := hrr.mark i b e1
   obtain ⟨k1, k2, _⟩ := hk _ _ hm.2.1 (fun x => x)
   exact hm.keep k1 k2
  ·simp only at e1
   split at e1
   ·rename_i hb
    subst hb
    refine ⟨w.heap.size, ?_⟩
    rw [← hrr.blen, List.getElem?_append_right (Nat.le_refl _)]
    simp
   ·obtain ⟨blk, hb⟩ := hrr.gsl b n e1
    exact ⟨blk, get_old hb⟩
 ·have hlt := h.rel.I_lt e
  rw [World.cell?_alloc_lt _ _ _ (by exact hlt)]
  exact h.rel.imm b i v e
 ·simp only [G'] at e
  split at e
  ·rename_i hb; subst hb; simp
  ·have := h.rel.ownlt b o e; simp; omega
theorem get_reps {α : Type} {l : List α} {x : α} {n b : Nat} {y : α} (h : (l ++ List.replicate n x)[b]? = some y) : l[b]? = some y ∨ (l.length ≤ b ∧ y = x) := by
 rcases Nat.lt_or_ge b l.length with hb | hb
 ·rw [List.getElem?_append_left hb] at h; exact .inl h
 ·rw [List.getElem?_append_right hb] at h
  exact .inr ⟨hb, by rw [List.getElem?_replicate] at h; split at h; (injection h with h; exact h.symm); cases h⟩
theorem reserve_sound (h : At P B0 w0 G k nl s w) (n : Nat) : StepTo P B0 w0 G k nl s (s.reserve n) w AV.undef Go.undef := by
 obtain ⟨r, gr, hr, hg⟩ := h.rec_ (Nat.le_refl k)
 have hrr := h.rel.rec_ k r gr hr hg
 let G' : Ghost := { G with acts := G.acts.modify k fun q => { q with bl := q.bl ++ List.replicate n none } }
 have hk : KeepsOwn (fun _ => False) G w G' w := fun b o e _ => ⟨e, rfl, fun _ e => e⟩
 have hle0 : RecLe gr { gr with bl := gr.bl ++ List.replicate n none } := ⟨fun b blk e => by
  show (gr.bl ++ _)[b]? = _
  rw [List.getElem?_append_left (List.getElem?_eq_some_iff.1 e).1]; exact e, fun g T e => ⟨T, e, .refl T⟩, rfl, fun _ _ e => e⟩
 have hle : GLe k gr.nl G G' := ⟨fun _ _ _ e => e, fun d q _ e => by
  simp only [G', modify_get]
  by_cases hd : k = d
  ·subst hd
   rw [hg] at e
   injection e with e
   subst e
   exact ⟨_, by rw [if_pos rfl, hg]; rfl, hle0, fun _ => rfl⟩
  ·exact ⟨q, by rw [if_neg hd]; exact e, .refl q, fun _ => rfl⟩, fun _ _ _ e => e⟩
 have hstep := h.rel.onRec (G' := G') (w' := w) hr hg (fun r => { r with boxes := r.boxes ++ List.replicate n [] }) (fun q => { q with bl := q.bl ++ List.replicate n none }) (fun _ => False) rfl rfl (fun _ _ _ e => e) hle0 rfl hk
  (fun o ho => ho.elim) ?_ (fun b i v e => h.rel.imm b i v e) (Below.refl _ _) (fun b o e => h.rel.ownlt b o e)
 ·obtain ⟨hs, hle'⟩ := hstep
  have hs' : SRel P B0 w0 G' (s.reserve n) w := by
   simp only [Sig.reserve, h.cur_eq]
   exact hs
  exact ⟨G', h.to hs' (hle' _ _) (by simp [Sig.reserve, Sig.onRec]), hle' _ _, by simp [Sig.reserve, Sig.onRec], .undef⟩
 ·refine ⟨by simp [hrr.blen], hrr.tlen, fun b cs' blk e1 e2 => ?_, fun b blk e1 e2 => ?_, fun g n T e1 e2 => ?_, fun i b e1 => ?_, fun b n e1 => ?_⟩
  ·have e2' : gr.bl[b]? = some (some blk) := by
    rcases get_reps e2 with e2 | ⟨_, e⟩
    ·exact e2
    ·cases e
   have e1' : r.boxes[b]? = some cs' := by
    rcases get_reps e1 with e1 | ⟨hb', _⟩
    ·exact e1
    ·have := (List.getElem?_eq_some_iff.1 e2').1; rw [hrr.blen] at this; omega
   exact (hrr.box b cs' blk e1' e2').kept hle hk (fun _ x => x)
  ·have e1' : gr.bl[b]? = some (some blk) := by
    rcases get_reps e1 with e1 | ⟨_, e⟩
    ·exact e1
    ·cases e
   rcases get_reps e2 with e2 | ⟨hb', _⟩
   ·exact hrr.full b blk e1' e2
   ·have := (List.getElem?_eq_some_iff.1 e1').1; rw [hrr.blen] at this; omega
  ·exact hrr.tok g n T e1 e2
  ·exact hrr.mark i b e1
  ·obtain ⟨blk, hb⟩ := hrr.gsl b n e1
   refine ⟨blk, ?_⟩
   show (gr.bl ++ _)[b]? = _
   rw [List.getElem?_append_left (List.getElem?_eq_some_iff.1 hb).1]; exact hb
theorem slot_sound (h : At P B0 w0 G k nl s w) {zs : List AV} {arr : Array Value} (ty : TypeId) {back : Nat} {v : AV} {s' : Sig} (hcell : ∀ c, c ∈ zs → c.isCell = true) (hR : Row2 (Rel G k nl) zs arr)
  (hv : slotOp s back zs = some (v, s')) : StepTo P B0 w0 G k nl s s' (w.alloc (.cells arr ty)) v (.pointer (some ⟨w.heap.size, 0, none⟩)) := by
 obtain ⟨r, gr, hr, hg⟩ := h.rec_ (Nat.le_refl k)
 have hnl : gr.nl = nl := by obtain ⟨g', e1, e2⟩ := h.cur; rw [hg] at e1; injection e1 with e1; rw [e1]; exact e2
 have hrr := h.rel.rec_ k r gr hr hg
 unfold slotOp at hv
 split at hv
 case h_2 => cases hv
 rename_i hbx
 split at hv
 ·cases hv
 rename_i hne0
 have hne1 : zs.isEmpty ≠ true := fun e => hne0 (.inl e)
 have hnt : s.noneTok s.cur = false := by cases e : s.noneTok s.cur with | true => exact absurd (.inr e) hne0 | false => rfl
 injection hv with hv
 injection hv with hv1 hv2
 subst hv1 hv2
 have hne : zs ≠ [] := fun e => hne1 (by rw [e]; rfl)
 rw [h.cur_eq] at hbx hnt ⊢
 have htk : none ∉ r.toks := by
  simp only [Sig.noneTok, hr] at hnt
  intro hm
  have := List.any_eq_false.1 hnt none hm
  exact this rfl
 generalize s.nbox k - back = b0 at *
 have hb0 : r.boxes[b0]? = some [] := by
  simpa [Sig.box, hr] using hbx
 have hb0l : b0 < r.boxes.length := (List.getElem?_eq_some_iff.1 hb0).1
 have hbl0 : gr.bl[b0]? = some none := by
  have hl : b0 < gr.bl.length := by rw [hrr.blen]; exact hb0l
  rw [List.getElem?_eq_getElem hl]
  cases e : gr.bl[b0] with
  | none => rfl
  | some blk => exact absurd (hrr.full b0 blk (by rw [List.getElem?_eq_getElem hl, e]) hb0) htk
 let G' : Ghost := { G with acts := G.acts.modify k fun q => { q with bl := q.bl.set b0 (some w.heap.size) }, own := fun b => if b = w.heap.size then some (.box k b0) else G.own b }
 have hk : KeepsOwn (fun _ => False) G w G' (w.alloc (.cells arr ty)) := fun b o e _ => by
  have hlt := h.rel.ownlt b o e
  exact ⟨by simp only [G']; rw [if_neg (by omega)]; exact e, Below.heap_alloc _ _ _ hlt, fun _ e => e⟩
 have hset : ∀ (b : Nat) (x : Option Nat), b ≠ b0 → (gr.bl.set b0 (some w.heap.size))[b]? = some x → gr.bl[b]? = some x := fun b x hb e => by
  rw [List.getElem?_set_ne (Ne.symm hb)] at e; exact e
 have hle0 : RecLe gr { gr with bl := gr.bl.set b0 (some w.heap.size) } := ⟨fun b blk e => by
  show (gr.bl.set _ _)[b]? = _
  by_cases hb : b = b0
  ·subst hb; rw [hbl0] at e; cases e
  ·rw [List.getElem?_set_ne (Ne.symm hb)]; exact e, fun g T e => ⟨T, e, .refl T⟩, rfl, fun _ _ e => e⟩
 have hnew : (w.alloc (.cells arr ty)).heap[w.heap.size]? = some (.cells arr ty) := World.alloc_heap_new w _
 have hle : GLe k nl G G' := ⟨fun _ _ _ e => e, fun d q _ e => by
  simp only [G', modify_get]
  by_cases hd : k = d
  ·subst hd
   rw [hg] at e
   injection e with e
   subst e
   exact ⟨_, by rw [if_pos rfl, hg]; rfl, hle0, fun _ => rfl⟩
  ·exact ⟨q, by rw [if_neg hd]; exact e, .refl q, fun _ => rfl⟩, fun _ _ _ e => e⟩
 have hstep := h.rel.onRec (G' := G') (w' := w.alloc (.cells arr ty)) hr hg (fun r => { r with boxes := r.boxes.set b0 zs }) (fun q => { q with bl := q.bl.set b0 (some w.heap.size) }) (fun _ => False) rfl rfl (fun _ _ _ e => e) hle0 rfl hk
  (fun o ho => ho.elim) ?_ (fun b i v e => ?_) ((Below.refl _ _).alloc h.rel.low _) (fun b o e => ?_)
 ·obtain ⟨hs, hle'⟩ := hstep
  have hat := h.to (s' := s.setBox k b0 zs) hs (hle' k nl) (by simp [Sig.setBox, Sig.onRec])
  refine ⟨G', hat, hle' _ _, by simp [Sig.setBox, Sig.onRec], ?_⟩
  have hga : G'.acts[k]? = some { gr with bl := gr.bl.set b0 (some w.heap.size) } := by
   show (G.acts.modify k _)[k]? = _
   rw [modify_get, if_pos rfl, hg]; rfl
  refine .ptr _ (Nat.le_refl _) hga ?_
  show (gr.bl.set b0 (some w.heap.size))[b0]? = _
  rw [List.getElem?_set_self (by rw [hrr.blen]; exact hb0l)]
 ·refine ⟨by simp [hrr.blen], hrr.tlen, fun b cs' blk e1 e2 => ?_, fun b blk e1 e2 => ?_, fun g n T e1 e2 => ?_, fun i b e1 => ?_, fun b n e1 => ?_⟩
  ·by_cases hb : b = b0
   ·subst hb
    have e2' : w.heap.size = blk := by
     have e3 : (gr.bl.set b (some w.heap.size))[b]? = some (some blk) := e2
     rw [List.getElem?_set_self (by rw [hrr.blen]; exact hb0l)] at e3
     injection e3 with e3; injection e3
    subst e2'
    have e1' : zs = cs' := by
     have e3 : (r.boxes.set b zs)[b]? = some cs' := e1
     rw [List.getElem?_set_self hb0l] at e3
     injection e3
    subst e1'
    refine ⟨h.rel.low, ⟨_, by simp [G'], fun _ => rfl⟩, fun _ => h.rel.I_new, arr, ty, hnew, Nat.le_of_eq hR.1.symm, fun _ n hn => ?_, fun i hi => ⟨hcell _ (List.getElem_mem hi), ?_⟩⟩
    ·obtain ⟨blk, hb⟩ := hrr.gsl b n hn
     rw [hbl0] at hb; cases hb
    have := (hR.2 i hi).mono hle (Nat.le_refl _) (Nat.le_refl _)
    show Rel G' k gr.nl _ _
    rw [hnl]
    exact this
   ·have e1' : r.boxes[b]? = some cs' := by
     have e3 : (r.boxes.set b0 zs)[b]? = some cs' := e1
     rw [List.getElem?_set_ne (Ne.symm hb)] at e3; exact e3
    have hbx := hrr.box b cs' blk e1' (hset b _ hb e2)
    exact hbx.kept (by rw [hnl]; exact hle) hk (fun _ x => x)
  ·by_cases hb : b = b0
   ·subst hb
    have e3 : (r.boxes.set b zs)[b]? = some [] := e2
    rw [List.getElem?_set_self hb0l] at e3
    injection e3 with e3
    exact absurd e3 hne
   ·have e3 : (r.boxes.set b0 zs)[b]? = some [] := e2
    rw [List.getElem?_set_ne (Ne.symm hb)] at e3
    exact hrr.full b blk (hset b _ hb e1) e3
  ·have ht := hrr.tok g n T e1 e2
   have hs : ∀ (hn : n.isSome = true), G'.own T.blk = some (.tok k g) ∧ (w.alloc (.cells arr ty)).heap[T.blk]? = w.heap[T.blk]? ∧ ∀ i, G.I T.blk i = none → G'.I T.blk i = none := fun hn => by
    obtain ⟨m, hm⟩ := Option.isSome_iff_exists.1 hn
    exact hk _ _ (ht.2 m hm).2.1 (fun x => x)
   exact ht.keep (fun hn => (hs hn).1) (fun hn => (hs hn).2.1) (fun hn => (hs hn).2.2)
  ·have hm := hrr.mark i b e1
   obtain ⟨k1, k2, _⟩ := hk _ _ hm.2.1 (fun x => x)
   exact hm.keep k1 k2
  ·obtain ⟨blk, hb⟩ := hrr.gsl b n e1
   exact ⟨blk, hle0.bl _ _ hb⟩
 ·have hlt := h.rel.I_lt e
  rw [World.cell?_alloc_lt _ _ _ (by exact hlt)]
  exact h.rel.imm b i v e
 ·simp only [G'] at e
  split at e
  ·rename_i hb; subst hb; simp
  ·have := h.rel.ownlt b o e; simp; omega
end
end Go.Ax

/-
  append: to a slice that is nil or full, and to one with the right to grow.
-/
namespace Go.Ax
open Go.RowKit
section
variable {P : Program} {B0 : Nat} {w0 : World} {G : Ghost} {k nl : Nat} {w : World} {s : Sig}
theorem SliceC.flat {I : IMap} {es : Nat} {xs : List (List AV)} {a : Addr} {cap : Nat} (h : SliceC I es xs a cap) (hes : 0 < es) :
  (0 < cap → a.spot = none) ∧ xs.length ≤ cap ∧ (∀ r, r ∈ xs → r.length = es) ∧ (∀ r, r ∈ xs → ∀ c, c ∈ r → c.isCell = true) ∧
  ∃ g : Nat → Value, (∀ c, c < xs.length * es → I a.block (a.off + c) = some (g c)) ∧ ∀ i (hi : i < xs.length) j (hj : j < xs[i].length), RelC I (xs[i][j]) (g (i * es + j)) := by
 cases h with
 | empty => exact ⟨fun h => absurd h (Nat.lt_irrefl _), Nat.le_refl _, by simp, by simp, fun _ => Go.undef, fun c hc => by simp at hc, fun i hi => absurd hi (Nat.not_lt_zero _)⟩
 | slice f ho hc hlen hcell hI hR =>
  refine ⟨fun _ => rfl, hc, hlen, hcell, fun c => f (c / es) (c % es), fun c hlt => ?_, fun i hi j hj => ?_⟩
  ·have h1 : c / es < xs.length := by rw [Nat.div_lt_iff_lt_mul hes]; exact hlt
   have h2 : c % es < (xs[c / es]).length := by rw [hlen _ (List.getElem_mem h1)]; exact Nat.mod_lt _ hes
   have := hI (c / es) h1 (c % es) h2
   rw [Nat.add_assoc, Nat.div_add_mod'] at this
   exact this
  ·have hj' : j < es := by rw [← hlen _ (List.getElem_mem hi)]; exact hj
   have e1 : (i * es + j) / es = i := by rw [Nat.mul_comm, Nat.mul_add_div hes, Nat.div_eq_of_lt hj']; omega
   have e2 : (i * es + j) % es = j := by rw [Nat.mul_comm, Nat.mul_add_mod, Nat.mod_eq_of_lt hj']
   simp only [e1, e2]
   exact hR i hi j hj
theorem SliceC.mk {I : IMap} {es : Nat} {xs : List (List AV)} {blk off cap : Nat} (g : Nat → Value) (hc : xs.length ≤ cap) (hlen : ∀ r, r ∈ xs → r.length = es) (hcell : ∀ r, r ∈ xs → ∀ c, c ∈ r → c.isCell = true)
  (hI : ∀ c, c < xs.length * es → I blk (off + c) = some (g c)) (hR : ∀ i (hi : i < xs.length) j (hj : j < xs[i].length), RelC I (xs[i][j]) (g (i * es + j))) : SliceC I es xs ⟨blk, off, none⟩ cap := by
 refine .slice (fun i j => g (i * es + j)) (.inl rfl) hc hlen hcell (fun i hi j hj => ?_) hR
 rw [Nat.add_assoc]
 refine hI _ ?_
 have hj' : j < es := by rw [← hlen _ (List.getElem_mem hi)]; exact hj
 calc i * es + j < i * es + es := by omega
  _ = (i + 1) * es := by rw [Nat.add_mul, Nat.one_mul]
  _ ≤ xs.length * es := Nat.mul_le_mul_right _ hi
def both (n : Nat) (f g : Nat → Value) : Nat → Value := fun c => if c < n then f c else g (c - n)
theorem both_list (n m : Nat) (f g : Nat → Value) : (List.range n).map f ++ (List.range m).map g = (List.range (n + m)).map (both n f g) := by
 apply List.ext_getElem
 ·simp
 ·intro i h1 h2
  simp only [List.length_append, List.length_map, List.length_range] at h1
  by_cases hi : i < n
  ·rw [List.getElem_append_left (by simpa using hi)]
   simp [both, hi]
  ·rw [List.getElem_append_right (by simpa using hi)]
   simp [both, hi]
theorem joined_rel {I : IMap} {es : Nat} {xs ys : List (List AV)} {f g : Nat → Value} (hx : ∀ i (hi : i < xs.length) j (hj : j < xs[i].length), RelC I (xs[i][j]) (f (i * es + j)))
  (hy : ∀ i (hi : i < ys.length) j (hj : j < ys[i].length), RelC I (ys[i][j]) (g (i * es + j))) (lx : ∀ r, r ∈ xs → r.length = es) (i : Nat) (hi : i < (xs ++ ys).length) (j : Nat) (hj : j < (xs ++ ys)[i].length) :
  RelC I ((xs ++ ys)[i][j]) (both (xs.length * es) f g (i * es + j)) := by
 by_cases h : i < xs.length
 ·have e : (xs ++ ys)[i] = xs[i] := List.getElem_append_left h
  have hj' : j < xs[i].length := by rw [← e]; exact hj
  have hlt : i * es + j < xs.length * es := by
   have : j < es := by rw [← lx _ (List.getElem_mem h)]; exact hj'
   calc i * es + j < i * es + es := by omega
    _ = (i + 1) * es := by rw [Nat.add_mul, Nat.one_mul]
    _ ≤ xs.length * es := Nat.mul_le_mul_right _ h
  have := hx i h j hj'
  simp only [both, hlt, if_true, e]
  exact this
 ·have h' : i - xs.length < ys.length := by simp at hi; omega
  have e : (xs ++ ys)[i] = ys[i - xs.length] := List.getElem_append_right (by omega)
  have hj' : j < ys[i - xs.length].length := by rw [← e]; exact hj
  have hge : ¬ i * es + j < xs.length * es := by
   have := Nat.mul_le_mul_right es (Nat.le_of_not_lt h)
   omega
  have he : i * es + j - xs.length * es = (i - xs.length) * es + j := by
   have := Nat.mul_le_mul_right es (Nat.le_of_not_lt h)
   rw [Nat.sub_mul]; omega
  have := hy _ h' j hj'
  simp only [both, hge, if_false, he, e]
  exact this
theorem growBy_le (need : Nat) : ∀ (r c : Nat), c ≤ need + (need + 768) / 4 → Builtin.growBy need r c ≤ need + (need + 768) / 4
 | 0, c, h => h
 | r + 1, c, h => by
  simp only [Builtin.growBy]
  split
  ·exact h
  ·exact growBy_le need r _ (by omega)
theorem nextcap_le (need old : Nat) (h : old < need) : Builtin.nextslicecap need old ≤ 2 * need + 1000 := by
 unfold Builtin.nextslicecap
 split
 ·omega
 ·split
  ·omega
  ·have := growBy_le need 4 old (by omega)
   omega
structure ElemT (P : Program) (t e : TypeId) (es by_ : Nat) (z : Value) : Prop where
 slice : P.underlying t = some (.slice e)
 size : sizeP P e = some es
 bytes : bytesP P e = some by_
 zero : (P.info? e).bind (·.zero) = some z
 zlen : z.cells.size = es
 pos : 0 < es
 bpos : 0 < by_
 ble : by_ ≤ 4096
theorem zeroValue_run {e : TypeId} {z : Value} (h : (P.info? e).bind (·.zero) = some z) (w : World) : (zeroValue e).run P w = .ok z w := by
 cases hi : P.info? e with
 | none => rw [hi] at h; cases h
 | some i =>
  rw [hi] at h
  simp only [Option.bind_some] at h
  simp [zeroValue, typeInfo, hi, h]
theorem info_of {e : TypeId} {b : Nat} (h : bytesP P e = some b) : ∃ i, P.info? e = some i ∧ i.bytes = b := by
 unfold bytesP at h
 cases hi : P.info? e with
 | none => rw [hi] at h; cases h
 | some i =>
  rw [hi] at h
  simp only [Option.map_some, Option.some.injEq] at h
  exact ⟨i, rfl, h⟩
theorem firstCells_run {a : Addr} {n es len cap : Nat} {g : Nat → Value} (h : ∀ c, c < n * es → w.cell? (a.add c) = some (g c)) :
  (Builtin.firstCells es n (.slice (some a) len cap)).run P w = .ok ((List.range (n * es)).map g).toArray w := by
 simp only [Builtin.firstCells]
 exact run_loadCells w a (n * es) g h
theorem append_none_run {t u e ty : TypeId} {es by_ n cap : Nat} {z : Value} (hT : ElemT P t e es by_ z) (hu : ∃ e', P.underlying u = some (.slice e')) (base b : Option Addr) (c : Nat) (hle : n ≤ cap) :
  (Builtin.append_ #[t, u] ty #[.slice base n cap, .slice b 0 c]).run P w = .ok (.slice base n cap) w := by
 obtain ⟨e', hu⟩ := hu
 obtain ⟨i, hi, _⟩ := info_of hT.bytes
 have hs : i.size = es := by have := hT.size; unfold sizeP at this; rw [hi] at this; simpa using this
 have hf : ∀ b : Option Addr, (Builtin.firstCells es 0 (.slice b 0 c)).run P w = .ok #[] w := fun b => by
  cases b with
  | none => simp [Builtin.firstCells]
  | some a => simp [Builtin.firstCells, loadCells, loadCellsFrom]
 cases base with
 | none => simp [Builtin.append_, run_underlying hT.slice, run_underlying hu, sizeOf, typeInfo, hi, hs, Builtin.lenOf, hle, hf]
 | some a => simp [Builtin.append_, run_underlying hT.slice, run_underlying hu, sizeOf, typeInfo, hi, hs, Builtin.lenOf, hle, hf, storeCells]
theorem append_room_run {t u e ty : TypeId} {es by_ n m cap c blk : Nat} {z : Value} {a : Addr} {g : Nat → Value} {arr : Array Value} {tb : TypeId} (hT : ElemT P t e es by_ z) (hu : ∃ e', P.underlying u = some (.slice e')) (hle : n + m ≤ cap)
  (hg : ∀ c, c < m * es → w.cell? (a.add c) = some (g c)) (hw : w.heap[blk]? = some (.cells arr tb)) (hsz : (n + m) * es ≤ arr.size) (h1 : ∀ c, c < m * es → (g c).oneCell' = true) :
  (Builtin.append_ #[t, u] ty #[.slice (some ⟨blk, 0, none⟩) n cap, .slice (some a) m c]).run P w = .ok (.slice (some ⟨blk, 0, none⟩) (n + m) cap) (w.setCells blk (n * es) ((List.range (m * es)).map g)) := by
 obtain ⟨e', hu⟩ := hu
 obtain ⟨i, hi, _⟩ := info_of hT.bytes
 have hs : i.size = es := by have := hT.size; unfold sizeP at this; rw [hi] at this; simpa using this
 have hfc := firstCells_run (P := P) (len := m) (cap := c) hg
 have hst := run_storeCells_cells (P := P) blk (n * es) ((List.range (m * es)).map g) 0 w (fun j hj => by
   rw [cell_of_heap hw]
   have hj' : j < m * es := by simpa using hj
   rw [Nat.add_mul] at hsz
   simp; omega) (fun j _ => frozen_of_heap hw) (fun v hv => by
   simp only [List.mem_map, List.mem_range] at hv
   obtain ⟨c, hc, rfl⟩ := hv
   exact h1 c hc)
 rw [Nat.add_zero] at hst
 simp [Builtin.append_, run_underlying hT.slice, run_underlying hu, sizeOf, typeInfo, hi, hs, Builtin.lenOf, hle, hfc, addr_add, hst]
theorem append_grow_run {t u e ty : TypeId} {es by_ n m cap c : Nat} {z : Value} {base : Option Addr} {a : Addr} {f g : Nat → Value} (hT : ElemT P t e es by_ z) (hu : ∃ e', P.underlying u = some (.slice e')) (hgt : ¬ n + m ≤ cap) (hmost : n + m ≤ most)
  (hf : ∀ b, base = some b → ∀ c, c < n * es → w.cell? (b.add c) = some (f c)) (hf0 : base = none → n = 0) (hg : ∀ c, c < m * es → w.cell? (a.add c) = some (g c)) :
  ∃ (newCap : Nat) (rest : List Value), n + m ≤ newCap ∧ rest.length = (newCap - (n + m)) * es ∧
   (Builtin.append_ #[t, u] ty #[.slice base n cap, .slice (some a) m c]).run P w =
    .ok (.slice (some ⟨w.heap.size, 0, none⟩) (n + m) newCap) (w.drew.alloc (.cells ((List.range (n * es + m * es)).map (both (n * es) f g) ++ rest).toArray e)) := by
 obtain ⟨e', hu⟩ := hu
 obtain ⟨i, hi, hby⟩ := info_of hT.bytes
 have hs : i.size = es := by have := hT.size; unfold sizeP at this; rw [hi] at this; simpa using this
 have hz : i.zero = some z := by have := hT.zero; rw [hi] at this; simpa using this
 have hgt' : cap < n + m := by omega
 have hncap := nextcap_le (n + m) cap hgt'
 unfold most at hmost
 have hbig : ¬ Builtin.nextslicecap (n + m) cap * i.bytes > 2 ^ 48 := by
  rw [hby]
  have h1 : Builtin.nextslicecap (n + m) cap * by_ ≤ (2 * 4294967296 + 1000) * 4096 := Nat.mul_le_mul (by omega) hT.ble
  omega
 have hb0 : ¬ i.bytes = 0 := by have := hT.bpos; omega
 have hfc := firstCells_run (P := P) (w := w.drew) (n := m) (es := es) (a := a) (g := g) (len := m) (cap := c) hg
 have hold : (Builtin.firstCells es n (.slice base n cap)).run P w.drew = .ok ((List.range (n * es)).map f).toArray w.drew := by
  cases base with
  | none => rw [hf0 rfl]; simp [Builtin.firstCells]
  | some b => exact firstCells_run (P := P) (w := w.drew) (hf b rfl)
 have hcap : n + m ≤ (Question.appendCap (n + m) cap e).cut (w.tape w.drawn (Question.appendCap (n + m) cap e)) := by simp [Question.cut]
 generalize hnc : (Question.appendCap (n + m) cap e).cut (w.tape w.drawn (Question.appendCap (n + m) cap e)) = newCap at hcap
 refine ⟨newCap, (Builtin.zeroCells z.cells (newCap - (n + m))).toList, hcap, by simp [Builtin.zeroCells, hT.zlen], ?_⟩
 have hfo : (Question.appendCap (n + m) cap e).forced = false := rfl
 simp only [Builtin.append_, List.getElem?_toArray, List.getElem?_cons_zero, List.getElem?_cons_succ, Sem.run_bind, Sem.run_pure, Result.andThen_ok, run_underlying hT.slice, run_underlying hu, sizeOf_run hT.size,
  Builtin.lenOf, Bool.false_eq_true, hgt, ↓reduceIte]
 simp [typeInfo, hi, hb0, hbig, hold, hfc, newRow, hfo, hnc, zeroValue_run hT.zero]
 rw [← both_list]
 congr 2
 apply Array.ext'
 simp
theorem none_set {l : List (Option Nat)} {g : Nat} {x : Option Nat} (h : none ∈ l) (hg : x = none ∨ ∃ n, l[g]? = some (some n)) : none ∈ l.set g x := by
 obtain ⟨j, hj⟩ := List.getElem?_of_mem h
 have hl := (List.getElem?_eq_some_iff.1 hj).1
 by_cases e : j = g
 ·subst e
  rcases hg with rfl | ⟨n, hn⟩
  ·exact List.mem_of_getElem? (i := j) (by simp [hl])
  ·rw [hj] at hn; injection hn with hn; cases hn
 ·exact List.mem_of_getElem? (i := j) (by rw [List.getElem?_set_ne (Ne.symm e)]; exact hj)
theorem RecRel.tokens {G' : Ghost} {w' : World} {d g0 : Nat} {r : Rec} {gr : GRec} (hrr : RecRel B0 G d r gr w) (hle : GLe d gr.nl G G') (hk : KeepsOwn (· = .tok d g0) G w G' w') {toks' : List (Option Nat)} {tk' : List TokG}
  (hl : tk'.length = toks'.length) (hlt : none ∈ r.toks → none ∈ toks')
  (hg : ∀ (g : Nat) (n : Option Nat) (T : TokG), toks'[g]? = some n → tk'[g]? = some T → (g ≠ g0 ∧ r.toks[g]? = some n ∧ gr.tk[g]? = some T) ∨ (g = g0 ∧ TokRel B0 G' d g n T w')) :
  RecRel B0 G' d { r with toks := toks' } { gr with tk := tk' } w' := by
 refine ⟨hrr.blen, hl, fun b cs blk e1 e2 => ?_, fun b blk e1 e2 => hlt (hrr.full b blk e1 e2), fun g n T e1 e2 => ?_, fun i b e1 => ?_, hrr.gsl⟩
 ·exact (hrr.box b cs blk e1 e2).kept hle hk (fun _ e => by cases e)
 ·rcases hg g n T e1 e2 with ⟨hne, h1, h2⟩ | ⟨_, h⟩
  ·have ht := hrr.tok g n T h1 h2
   have hs : ∀ (hn : n.isSome = true), G'.own T.blk = some (.tok d g) ∧ w'.heap[T.blk]? = w.heap[T.blk]? ∧ ∀ i, G.I T.blk i = none → G'.I T.blk i = none := fun hn => by
    obtain ⟨m, hm⟩ := Option.isSome_iff_exists.1 hn
    exact hk _ _ (ht.2 m hm).2.1 (fun e => by injection e with _ e; exact hne e)
   exact ht.keep (fun hn => (hs hn).1) (fun hn => (hs hn).2.1) (fun hn => (hs hn).2.2)
  ·exact h
 ·have hm := hrr.mark i b e1
  obtain ⟨k1, k2, _⟩ := hk _ _ hm.2.1 (fun e => by cases e)
  exact hm.keep k1 k2
def Ghost.addRow (G : Ghost) (b n : Nat) (f : Nat → Value) : IMap := fun c i => if c = b then (if i < n then some (f i) else none) else G.I c i
theorem both_rel {xs ys : List (List AV)} {es : Nat} {I : IMap} {f g : Nat → Value} {blk cap : Nat} (lx : ∀ r, r ∈ xs → r.length = es) (ly : ∀ r, r ∈ ys → r.length = es)
  (cx : ∀ r, r ∈ xs → ∀ c, c ∈ r → c.isCell = true) (cy : ∀ r, r ∈ ys → ∀ c, c ∈ r → c.isCell = true) (hcap : xs.length + ys.length ≤ cap)
  (hI : ∀ c, c < (xs.length + ys.length) * es → I blk c = some (both (xs.length * es) f g c))
  (hx : ∀ i (hi : i < xs.length) j (hj : j < xs[i].length), RelC I (xs[i][j]) (f (i * es + j))) (hy : ∀ i (hi : i < ys.length) j (hj : j < ys[i].length), RelC I (ys[i][j]) (g (i * es + j))) :
  SliceC I es (xs ++ ys) ⟨blk, 0, none⟩ cap := by
 refine SliceC.mk (both (xs.length * es) f g) (by simpa using hcap) (fun r hr => ?_) (fun r hr => ?_) (fun c hc => ?_) (joined_rel hx hy lx)
 ·rcases List.mem_append.1 hr with h | h
  ·exact lx r h
  ·exact ly r h
 ·rcases List.mem_append.1 hr with h | h
  ·exact cx r h
  ·exact cy r h
 ·rw [Nat.zero_add]
  exact hI c (by simpa using hc)
theorem append_new (h : At P B0 w0 G k nl s w) {es n : Nat} {xs ys : List (List AV)} {f g : Nat → Value} {newCap : Nat} {rest : List Value} {e : TypeId} (hes : 0 < es) (hn : n = xs.length + ys.length)
    (lx : ∀ r, r ∈ xs → r.length = es) (ly : ∀ r, r ∈ ys → r.length = es) (cx : ∀ r, r ∈ xs → ∀ c, c ∈ r → c.isCell = true) (cy : ∀ r, r ∈ ys → ∀ c, c ∈ r → c.isCell = true)
    (hx : ∀ i (hi : i < xs.length) j (hj : j < xs[i].length), RelC G.I (xs[i][j]) (f (i * es + j))) (hy : ∀ i (hi : i < ys.length) j (hj : j < ys[i].length), RelC G.I (ys[i][j]) (g (i * es + j)))
    (hcap : n ≤ newCap) (hrest : rest.length = (newCap - n) * es) :
    StepTo P B0 w0 G k nl s (s.addTok k n) (w.drew.alloc (.cells ((List.range (xs.length * es + ys.length * es)).map (both (xs.length * es) f g) ++ rest).toArray e))
      (.slice (.tok k (s.ntok k)) es (xs ++ ys)) (.slice (some ⟨w.heap.size, 0, none⟩) n newCap) := by
  obtain ⟨r, gr, hr, hg⟩ := h.rec_ (Nat.le_refl k)
  have hrr := h.rel.rec_ k r gr hr hg
  have hnt : s.ntok k = r.toks.length := by simp [Sig.ntok, hr]
  have hsum : xs.length * es + ys.length * es = n * es := by rw [hn, Nat.add_mul]
  let T : TokG := ⟨some n, w.heap.size, newCap, es⟩
  let G' : Ghost := { G with I := G.addRow w.heap.size (n * es) (both (xs.length * es) f g), acts := G.acts.modify k fun q => { q with tk := q.tk ++ [T] }, own := fun b => if b = w.heap.size then some (.tok k r.toks.length) else G.own b }
  generalize harr : ((List.range (xs.length * es + ys.length * es)).map (both (xs.length * es) f g) ++ rest).toArray = arr
  have hasz : arr.size = newCap * es := by
    rw [← harr]
    simp only [List.size_toArray, List.length_append, List.length_map, List.length_range, hrest, hsum]
    rw [← Nat.add_mul]
    congr 1
    omega
  have hget : ∀ c, c < n * es → arr[c]? = some (both (xs.length * es) f g c) := fun c hc => by
    rw [← harr, hsum]
    simp only [List.getElem?_toArray]
    rw [List.getElem?_append_left (by simpa using hc)]
    simp [hc]
  let w' := w.drew.alloc (.cells arr e)
  have hI : ∀ b i v, G.I b i = some v → G'.I b i = some v := fun b i v e => by
    have := h.rel.I_lt e
    simp only [G', Ghost.addRow]
    rw [if_neg (by omega)]
    exact e
  have hk : KeepsOwn (· = .tok k r.toks.length) G w G' w' := fun b o e _ => by
    have hlt := h.rel.ownlt b o e
    refine ⟨by simp only [G']; rw [if_neg (by omega)]; exact e, Below.heap_alloc w.drew _ _ hlt, fun i e => ?_⟩
    simp only [G', Ghost.addRow]
    rw [if_neg (by omega)]
    exact e
  have hle0 : RecLe gr { gr with tk := gr.tk ++ [T] } := ⟨fun b blk e => e, fun g T e => ⟨T, get_old e, .refl T⟩, rfl, fun _ _ e => e⟩
  have hnew : w'.heap[w.heap.size]? = some (.cells arr e) := World.alloc_heap_new w.drew _
  have hgle : GLe k gr.nl G G' := ⟨hI, fun d q _ e => by
    show ∃ gr', (G.acts.modify k _)[d]? = some gr' ∧ _
    rw [modify_get]
    by_cases hd : k = d
    · subst hd
      rw [hg] at e
      injection e with e
      subst e
      exact ⟨_, by rw [if_pos rfl, hg]; rfl, hle0, fun _ => rfl⟩
    · exact ⟨q, by rw [if_neg hd]; exact e, .refl q, fun _ => rfl⟩, fun _ _ _ e => e⟩
  have hstep := h.rel.onRec (G' := G') (w' := w') hr hg (fun r => { r with toks := r.toks ++ [some n] }) (fun q => { q with tk := q.tk ++ [T] }) (· = .tok k r.toks.length) rfl rfl hI hle0 rfl hk
    (fun o ho => .inr ⟨_, ho⟩) ?_ (fun b i v e => ?_) (((Below.refl _ _).drew).alloc h.rel.low _) (fun b o e => ?_)
  · obtain ⟨hs', hle'⟩ := hstep
    have hlen : (s.addTok k n).acts.length = s.acts.length := by simp [Sig.addTok, Sig.onRec]
    obtain ⟨gc, hgc, hgn⟩ := h.cur
    rw [hg] at hgc
    injection hgc with hgc
    subst hgc
    have hga : G'.acts[k]? = some { gr with tk := gr.tk ++ [T] } := by
      show (G.acts.modify k _)[k]? = _
      rw [modify_get, if_pos rfl, hg]; rfl
    have hgt : ({ gr with tk := gr.tk ++ [T] } : GRec).tk[r.toks.length]? = some T := by
      show (gr.tk ++ [T])[r.toks.length]? = _
      rw [← hrr.tlen, List.getElem?_append_right (Nat.le_refl _)]
      simp
    refine ⟨G', h.to hs' (hle' _ _) hlen, hle' _ _, by simp [Sig.addTok, Sig.onRec], ?_⟩
    rw [hnt]
    have hc : SliceC G'.I es (xs ++ ys) ⟨w.heap.size, 0, none⟩ newCap :=
      both_rel lx ly cx cy (by omega) (fun c hc => by
        simp only [G', Ghost.addRow]
        rw [if_pos trivial, if_pos (by rw [hn]; exact hc)]) (fun i hi j hj => (hx i hi j hj).mono hI) (fun i hi j hj => (hy i hi j hj).mono hI)
    have hl : (xs ++ ys).length = n := by simp [hn]
    have := Rel.tok (G := G') (k := k) (nl := nl) (d := k) (g := r.toks.length) (es := es) (xs := xs ++ ys) (a := ⟨w.heap.size, 0, none⟩) (cap := newCap) T _ (Nat.le_refl _) hga hgt rfl hc
      (fun m hm => by
        simp only [T] at hm
        injection hm with hm
        subst hm
        exact ⟨by omega, fun _ => ⟨rfl, rfl⟩⟩)
    rw [hl] at this
    exact this
  · refine hrr.tokens (toks' := r.toks ++ [some n]) (tk' := gr.tk ++ [T]) hgle hk (by simp [hrr.tlen]) (List.mem_append_left _) (fun g m T' e1 e2 => ?_)
    rcases get_push e1 with ⟨hlt, e1⟩ | ⟨rfl, rfl⟩
    · refine .inl ⟨by omega, e1, ?_⟩
      rcases get_push e2 with ⟨_, e2⟩ | ⟨hb, _⟩
      · exact e2
      · rw [hrr.tlen] at hb; omega
    · have : T' = T := by
        rcases get_push e2 with ⟨hb, _⟩ | ⟨_, e⟩
        · rw [hrr.tlen] at hb; omega
        · exact e
      subst this
      refine .inr ⟨rfl, rfl, fun m hm => ?_⟩
      injection hm with hm
      subst hm
      refine ⟨h.rel.low, by simp [G', T], fun i hi => ?_, hcap, hes, arr, e, hnew, hasz⟩
      simp only [G', Ghost.addRow, T] at hi ⊢
      rw [if_pos trivial, if_neg (by omega)]
  · simp only [G', Ghost.addRow] at e
    split at e
    · rename_i hb
      subst hb
      split at e
      · rename_i hi
        injection e with e
        subst e
        rw [cell_of_heap hnew]
        exact hget i hi
      · cases e
    · rename_i hb
      have := h.rel.imm b i v e
      rw [cells_congr (w := w) (Below.heap_alloc w.drew _ _ (h.rel.I_lt e)) rfl]
      exact this
  · simp only [G'] at e
    split at e
    · rename_i hb; subst hb; simp [w']
    · have := h.rel.ownlt b o e; simp [w']; omega
theorem set_get {α : Type} {l : List α} {i j : Nat} {x y : α} (h : (l.set i x)[j]? = some y) : (j ≠ i ∧ l[j]? = some y) ∨ (j = i ∧ y = x ∧ i < l.length) := by
 rw [List.getElem?_set] at h
 by_cases hij : i = j
 ·rw [if_pos hij] at h
  split at h
  ·injection h with h
   exact .inr ⟨hij.symm, h.symm, by assumption⟩
  ·cases h
 ·rw [if_neg hij] at h
  exact .inl ⟨fun e => hij e.symm, h⟩
theorem set_same {α : Type} {l : List α} {i : Nat} {x y : α} (h : l[i]? = some y) : (l.set i x)[i]? = some x := by
 rw [List.getElem?_set, if_pos rfl, if_pos (List.getElem?_eq_some_iff.1 h).1]
theorem tok_step (h : At P B0 w0 G k nl s w) {d g n m : Nat} {r : Rec} {gr : GRec} {T T' : TokG} {w' : World} {I' : IMap} {own' : Nat → Option Owner} (hd : d ≤ k) (hr : s.acts[d]? = some r) (hg : G.acts[d]? = some gr)
    (hrt : r.toks[g]? = some (some n)) (hgt : gr.tk[g]? = some T) (hT' : T'.n = some m) (hlt : n < m) (hes : T'.es = T.es)
    (hI : ∀ b i v, G.I b i = some v → I' b i = some v) (hk : ∀ b o, G.own b = some o → o ≠ .tok d g → own' b = some o ∧ w'.heap[b]? = w.heap[b]? ∧ ∀ i, G.I b i = none → I' b i = none)
    (hnew : TokRel B0 { G with I := I', acts := G.acts.modify d fun q => { q with tk := q.tk.set g T' }, own := own' } d g (some m) T' w')
    (him : ∀ b i v, I' b i = some v → w'.cell? ⟨b, i, none⟩ = some v) (hb : Below B0 w w') (hol : ∀ b o, own' b = some o → b < w'.heap.size)
    {es : Nat} {xs : List (List AV)} {a : Addr} {cap : Nat} (hee : T'.es = es) (hlen : xs.length = m) (hc : SliceC I' es xs a cap) (ha : a = ⟨T'.blk, 0, none⟩) (hcap : cap = T'.cap) :
    StepTo P B0 w0 G k nl s (s.setTok d g (some m)) w' (.slice (.tok d g) es xs) (.slice (some a) m cap) := by
  have hrr := h.rel.rec_ d r gr hr hg
  have hTn : T.n = some n := (hrr.tok g (some n) T hrt hgt).1
  let G' : Ghost := { G with I := I', acts := G.acts.modify d fun q => { q with tk := q.tk.set g T' }, own := own' }
  have htle : TokLe T T' := ⟨hes, .inr (.inr ⟨n, m, hTn, hT', hlt⟩)⟩
  have hle0 : RecLe gr { gr with tk := gr.tk.set g T' } := ⟨fun b blk e => e, fun j U e => by
    by_cases hj : j = g
    · subst hj
      rw [hgt] at e
      injection e with e
      subst e
      exact ⟨T', set_same hgt, htle⟩
    · exact ⟨U, by show (gr.tk.set g T')[j]? = _; rw [List.getElem?_set, if_neg (fun e => hj e.symm)]; exact e, .refl U⟩, rfl, fun _ _ e => e⟩
  have hk' : KeepsOwn (· = .tok d g) G w G' w' := hk
  have hgle : GLe d gr.nl G G' := ⟨hI, fun d' q _ e => by
    show ∃ gr', (G.acts.modify d _)[d']? = some gr' ∧ _
    rw [modify_get]
    by_cases hdd : d = d'
    · subst hdd
      rw [hg] at e
      injection e with e
      subst e
      exact ⟨_, by rw [if_pos rfl, hg]; rfl, hle0, fun _ => rfl⟩
    · exact ⟨q, by rw [if_neg hdd]; exact e, .refl q, fun _ => rfl⟩, fun _ _ _ e => e⟩
  have hstep := h.rel.onRec (G' := G') (w' := w') hr hg (fun r => { r with toks := r.toks.set g (some m) }) (fun q => { q with tk := q.tk.set g T' }) (· = .tok d g) rfl rfl hI hle0 rfl hk'
    (fun o ho => .inr ⟨_, ho⟩) ?_ him hb hol
  · obtain ⟨hs', hle'⟩ := hstep
    have hlen' : (s.setTok d g (some m)).acts.length = s.acts.length := by simp [Sig.setTok, Sig.onRec]
    have hga : G'.acts[d]? = some { gr with tk := gr.tk.set g T' } := by
      show (G.acts.modify d _)[d]? = _
      rw [modify_get, if_pos rfl, hg]; rfl
    refine ⟨G', h.to hs' (hle' _ _) hlen', hle' _ _, by simp [Sig.setTok, Sig.onRec], ?_⟩
    have := Rel.tok (G := G') (k := k) (nl := nl) (d := d) (g := g) (es := es) (xs := xs) (a := a) (cap := cap) T' _ hd hga (set_same hgt) hee hc
      (fun p hp => by
        rw [hT'] at hp
        injection hp with hp
        subst hp
        exact ⟨by omega, fun _ => ⟨ha, hcap⟩⟩)
    rw [hlen] at this
    exact this
  · refine hrr.tokens (toks' := r.toks.set g (some m)) (tk' := gr.tk.set g T') hgle hk' (by simp [hrr.tlen]) (fun hm => none_set hm (.inr ⟨_, hrt⟩)) (fun j p U e1 e2 => ?_)
    rcases set_get e1 with ⟨hne, e1⟩ | ⟨rfl, rfl, _⟩
    · rcases set_get e2 with ⟨_, e2⟩ | ⟨hj, _⟩
      · exact .inl ⟨hne, e1, e2⟩
      · exact absurd hj hne
    · rcases set_get e2 with ⟨hj, _⟩ | ⟨_, rfl, _⟩
      · exact absurd rfl hj
      · exact .inr ⟨rfl, hnew⟩
theorem append_room (h : At P B0 w0 G k nl s w) {d g n es : Nat} {xs ys : List (List AV)} {fx fy : Nat → Value} {r : Rec} {gr : GRec} {T : TokG} (hd : d ≤ k) (hr : s.acts[d]? = some r) (hg : G.acts[d]? = some gr)
  (hrt : r.toks[g]? = some (some xs.length)) (hgt : gr.tk[g]? = some T) (hTe : T.es = es) (hes : 0 < es) (hn : n = xs.length + ys.length) (hy0 : 0 < ys.length) (hroom : n ≤ T.cap)
  (lx : ∀ r, r ∈ xs → r.length = es) (ly : ∀ r, r ∈ ys → r.length = es) (cx : ∀ r, r ∈ xs → ∀ c, c ∈ r → c.isCell = true) (cy : ∀ r, r ∈ ys → ∀ c, c ∈ r → c.isCell = true)
  (hxI : ∀ c, c < xs.length * es → G.I T.blk c = some (fx c))
  (hx : ∀ i (hi : i < xs.length) j (hj : j < xs[i].length), RelC G.I (xs[i][j]) (fx (i * es + j))) (hy : ∀ i (hi : i < ys.length) j (hj : j < ys[i].length), RelC G.I (ys[i][j]) (fy (i * es + j))) :
  StepTo P B0 w0 G k nl s (s.setTok d g (some n)) (w.setCells T.blk (xs.length * es) ((List.range (ys.length * es)).map fy)) (.slice (.tok d g) es (xs ++ ys)) (.slice (some ⟨T.blk, 0, none⟩) n T.cap) := by
 have hrr := h.rel.rec_ d r gr hr hg
 have hTR := hrr.tok g (some xs.length) T hrt hgt
 obtain ⟨hTn, hT2⟩ := hTR
 obtain ⟨t1, t2, t3, t4, t5, arr, ty, t6, t7⟩ := hT2 _ rfl
 rw [hTe] at t3 t7
 have hsum : n * es = xs.length * es + ys.length * es := by rw [hn, Nat.add_mul]
 let I' : IMap := fun b i => if b = T.blk ∧ xs.length * es ≤ i ∧ i < n * es then some (fy (i - xs.length * es)) else G.I b i
 have hI : ∀ b i v, G.I b i = some v → I' b i = some v := fun b i v e => by
  simp only [I']
  split
  ·rename_i hc
   obtain ⟨rfl, h1, _⟩ := hc
   rw [t3 i h1] at e
   cases e
  ·exact e
 have hbelow : Below B0 w (w.setCells T.blk (xs.length * es) ((List.range (ys.length * es)).map fy)) := below_setCells t1 _ _ _
 have hnewheap := heap_setCells ((List.range (ys.length * es)).map fy) (xs.length * es) arr w t6
 have hother : ∀ b, b ≠ T.blk → (w.setCells T.blk (xs.length * es) ((List.range (ys.length * es)).map fy)).heap[b]? = w.heap[b]? := fun b hb => heap_setCells_other hb _ _ _
 have harrle : n * es ≤ arr.size := by rw [t7]; exact Nat.mul_le_mul_right _ hroom
 have hin := World.cell?_setCells_in T.blk ((List.range (ys.length * es)).map fy) (xs.length * es) w (fun j hj => by
  rw [cell_of_heap t6]
  have hj' : j < ys.length * es := by simpa using hj
  simp; omega)
 refine tok_step h (T := T) (T' := { T with n := some n }) (I' := I') (own' := G.own) hd hr hg hrt hgt rfl (by omega) rfl hI (fun b o ho hne => ?_) ?_ (fun b i v e => ?_) hbelow (fun b o ho => ?_) hTe (by simp [hn]) ?_ rfl rfl
 ·have hb : b ≠ T.blk := by
   rintro rfl
   rw [t2] at ho
   injection ho with ho
   exact hne ho.symm
  refine ⟨ho, hother b hb, fun i e => ?_⟩
  simp only [I']
  rw [if_neg (fun hc => hb hc.1)]
  exact e
 ·refine ⟨rfl, fun p hp => ?_⟩
  injection hp with hp
  subst hp
  refine ⟨t1, t2, fun i hi => ?_, hroom, t5, _, ty, hnewheap, by rw [setA_size, t7, hTe]⟩
  simp only [hTe] at hi
  simp only [I']
  rw [if_neg (fun hc => by omega)]
  exact t3 i (by omega)
 ·simp only [I'] at e
  split at e
  ·rename_i hc
   obtain ⟨rfl, h1, h2⟩ := hc
   injection e with e
   subst e
   have := hin (i - xs.length * es) (by simp; omega)
   rw [show xs.length * es + (i - xs.length * es) = i by omega] at this
   rw [this]
   simp
  ·rename_i hc
   have hv := h.rel.imm b i v e
   rw [World.cell?_setCells_out]
   ·exact hv
   ·intro hb _
    have hb : b = T.blk := hb
    subst hb
    simp only [List.length_map, List.length_range]
    rcases Nat.lt_or_ge i (xs.length * es) with h1 | h1
    ·exact .inl h1
    ·exact .inr (by
      have : ¬ i < n * es := fun h2 => hc ⟨rfl, h1, h2⟩
      show xs.length * es + ys.length * es ≤ i
      omega)
 ·rw [size_setCells]
  exact h.rel.ownlt b o ho
 ·refine both_rel (f := fx) (g := fy) lx ly cx cy (by omega) (fun c hc => ?_) (fun i hi j hj => (hx i hi j hj).mono hI) (fun i hi j hj => (hy i hi j hj).mono hI)
  rw [← hn] at hc
  simp only [I', both]
  by_cases hlt : c < xs.length * es
  ·rw [if_neg (fun hh => by omega), if_pos hlt]
   exact hxI c hlt
  ·rw [if_pos ⟨trivial, by omega, hc⟩, if_neg hlt]
theorem append_move (h : At P B0 w0 G k nl s w) {d g n es : Nat} {xs ys : List (List AV)} {f fy : Nat → Value} {r : Rec} {gr : GRec} {T : TokG} {newCap : Nat} {rest : List Value} {e : TypeId} (hd : d ≤ k) (hr : s.acts[d]? = some r) (hg : G.acts[d]? = some gr)
  (hrt : r.toks[g]? = some (some xs.length)) (hgt : gr.tk[g]? = some T) (hTe : T.es = es) (hes : 0 < es) (hn : n = xs.length + ys.length) (hy0 : 0 < ys.length)
  (lx : ∀ r, r ∈ xs → r.length = es) (ly : ∀ r, r ∈ ys → r.length = es) (cx : ∀ r, r ∈ xs → ∀ c, c ∈ r → c.isCell = true) (cy : ∀ r, r ∈ ys → ∀ c, c ∈ r → c.isCell = true)
  (hx : ∀ i (hi : i < xs.length) j (hj : j < xs[i].length), RelC G.I (xs[i][j]) (f (i * es + j))) (hy : ∀ i (hi : i < ys.length) j (hj : j < ys[i].length), RelC G.I (ys[i][j]) (fy (i * es + j)))
  (hcap : n ≤ newCap) (hrest : rest.length = (newCap - n) * es) :
  StepTo P B0 w0 G k nl s (s.setTok d g (some n)) (w.drew.alloc (.cells ((List.range (xs.length * es + ys.length * es)).map (both (xs.length * es) f fy) ++ rest).toArray e))
   (.slice (.tok d g) es (xs ++ ys)) (.slice (some ⟨w.heap.size, 0, none⟩) n newCap) := by
 have hrr := h.rel.rec_ d r gr hr hg
 obtain ⟨hTn, hT2⟩ := hrr.tok g (some xs.length) T hrt hgt
 obtain ⟨t1, t2, t3, t4, t5, _, _, t6, _⟩ := hT2 _ rfl
 have hTlt : T.blk < w.heap.size := (Array.getElem?_eq_some_iff.1 t6).1
 have hsum : xs.length * es + ys.length * es = n * es := by rw [hn, Nat.add_mul]
 generalize harr : ((List.range (xs.length * es + ys.length * es)).map (both (xs.length * es) f fy) ++ rest).toArray = arr
 have hasz : arr.size = newCap * es := by
  rw [← harr]
  simp only [List.size_toArray, List.length_append, List.length_map, List.length_range, hrest, hsum]
  rw [← Nat.add_mul]
  congr 1
  omega
 have hget : ∀ c, c < n * es → arr[c]? = some (both (xs.length * es) f fy c) := fun c hc => by
  rw [← harr, hsum]
  simp only [List.getElem?_toArray]
  rw [List.getElem?_append_left (by simpa using hc)]
  simp [hc]
 have hnew : (w.drew.alloc (.cells arr e)).heap[w.heap.size]? = some (.cells arr e) := World.alloc_heap_new w.drew _
 let I' : IMap := G.addRow w.heap.size (n * es) (both (xs.length * es) f fy)
 have hI : ∀ b i v, G.I b i = some v → I' b i = some v := fun b i v e => by
  have := h.rel.I_lt e
  simp only [I', Ghost.addRow]
  rw [if_neg (by omega)]
  exact e
 refine tok_step h (T := T) (T' := ⟨some n, w.heap.size, newCap, es⟩) (I' := I') (own' := fun b => if b = w.heap.size then some (.tok d g) else if b = T.blk then none else G.own b) hd hr hg hrt hgt rfl (by omega) hTe.symm hI
  (fun b o ho hne => ?_) ?_ (fun b i v e => ?_) (((Below.refl _ _).drew).alloc h.rel.low _) (fun b o ho => ?_) rfl (by simp [hn]) ?_ rfl rfl
 ·have hlt := h.rel.ownlt b o ho
  have hb : b ≠ T.blk := by
   rintro rfl
   rw [t2] at ho
   injection ho with ho
   exact hne ho.symm
  refine ⟨by rw [if_neg (by omega), if_neg hb]; exact ho, Below.heap_alloc w.drew _ _ hlt, fun i e => ?_⟩
  simp only [I', Ghost.addRow]
  rw [if_neg (by omega)]
  exact e
 ·refine ⟨rfl, fun p hp => ?_⟩
  injection hp with hp
  subst hp
  refine ⟨h.rel.low, by simp, fun i hi => ?_, hcap, hes, arr, e, hnew, hasz⟩
  simp only [I', Ghost.addRow] at hi ⊢
  rw [if_pos trivial, if_neg (by omega)]
 ·simp only [I', Ghost.addRow] at e
  split at e
  ·rename_i hb
   subst hb
   split at e
   ·rename_i hi
    injection e with e
    subst e
    rw [cell_of_heap hnew]
    exact hget i hi
   ·cases e
  ·rename_i hb
   have := h.rel.imm b i v e
   rw [cells_congr (w := w) (Below.heap_alloc w.drew _ _ (h.rel.I_lt e)) rfl]
   exact this
 ·split at ho
  ·rename_i hb; subst hb; simp
  ·split at ho
   ·cases ho
   ·have := h.rel.ownlt b o ho; simp; omega
 ·refine both_rel (f := f) (g := fy) lx ly cx cy (by omega) (fun c hc => ?_) (fun i hi j hj => (hx i hi j hj).mono hI) (fun i hi j hj => (hy i hi j hj).mono hI)
  simp only [I', Ghost.addRow]
  rw [if_pos trivial, if_pos (by rw [hn]; exact hc)]
theorem addr_eta {a : Addr} (h : a.spot = none) : a = ⟨a.block, a.off, none⟩ := by
 cases a
 cases h
 rfl
theorem append_sound (h : At P B0 w0 G k nl s w) {t u e ty : TypeId} {es by_ : Nat} {z : Value} (hT : ElemT P t e es by_ z) (hu : ∃ e', P.underlying u = some (.slice e')) {a b v : AV} {x y : Value} {s' : Sig}
  (hx : Rel G k nl a x) (hy : Rel G k nl b y) (ha : appendOp s es a b = some (v, s')) :
  ∃ x' w', (Builtin.append_ #[t, u] ty #[x, y]).run P w = .ok x' w' ∧ StepTo P B0 w0 G k nl s s' w' v x' := by
 unfold appendOp at ha
 split at ha
 case h_2 => cases ha
 rename_i o e1 xs oy e2 ys
 split at ha
 ·rename_i hys
  have hys : ys = [] := by simpa using hys
  subst hys
  injection ha with ha
  injection ha with h1 h2
  subst h1 h2
  have hself : StepTo P B0 w0 G k nl s s w (.slice o e1 xs) x := ⟨G, h, GLe.refl _ _ _, rfl, hx⟩
  have hyc : ∃ bb c, y = .slice bb 0 c := by
   rcases hy.inv_slice with ⟨_, _, rfl⟩ | ⟨_, aa, c, rfl, _⟩
   ·exact ⟨_, _, rfl⟩
   ·exact ⟨_, _, rfl⟩
  obtain ⟨bb, c, rfl⟩ := hyc
  rcases hx.inv_slice with ⟨_, _, rfl⟩ | ⟨_, aa, cap, rfl, _, hle, _⟩
  ·exact ⟨_, w, append_none_run hT hu none bb c (Nat.le_refl _), hself⟩
  ·exact ⟨_, w, append_none_run hT hu (some aa) bb c hle, hself⟩
 ·rename_i hys
  split at ha
  case isFalse => cases ha
  rename_i hcond
  obtain ⟨rfl, he1, hmost⟩ := hcond
  have hy0 : 0 < ys.length := by
   cases ys with
   | nil => simp at hys
   | cons => simp
  rcases hy.inv_slice with ⟨_, hn, _⟩ | ⟨_, ay, cy, rfl, _, _, hyc, _⟩
  ·rw [hn] at hy0; simp at hy0
  obtain ⟨hys', hcy, ly, ccy, fy, hyI, hyR⟩ := SliceC.flat hyc hT.pos
  have hay : ay = ⟨ay.block, ay.off, none⟩ := addr_eta (hys' (by omega))
  have hgy : ∀ c, c < ys.length * e2 → w.cell? (ay.add c) = some (fy c) := fun c hc => by
   rw [hay, addr_add]; exact h.rel.imm _ _ _ (hyI c hc)
  cases o with
  | any => cases ha
  | nilS =>
   injection ha with ha
   injection ha with h1 h2
   subst h1 h2
   rcases hx.inv_slice with ⟨_, rfl, rfl⟩ | ⟨hne, _⟩
   ·obtain ⟨newCap, rest, hcap, hrest, hrun⟩ := append_grow_run (P := P) (w := w) (ty := ty) (n := 0) (m := ys.length) (cap := 0) (c := cy) (base := none) (a := ay) (f := fun _ => Go.undef) (g := fy) hT hu (by omega)
     (by simpa using hmost) (fun _ e => by cases e) (fun _ => rfl) hgy
    refine ⟨_, _, hrun, ?_⟩
    have := append_new h (xs := []) (ys := ys) (f := fun _ => Go.undef) (g := fy) (n := ys.length) (newCap := newCap) (rest := rest) (e := e) hT.pos (by simp) (by simp) ly (by simp) ccy (by simp) hyR (by omega) (by simpa using hrest)
    rw [h.cur_eq]
    simpa using this
   ·exact absurd rfl hne
  | full =>
   injection ha with ha
   injection ha with h1 h2
   subst h1 h2
   rcases hx.inv_slice with ⟨hne, _⟩ | ⟨_, ax, cx, rfl, _, _, hxc, hfull⟩
   ·cases hne
   have hcx := hfull rfl
   subst hcx
   have : e1 = e2 := by
    rcases he1 with h | h
    ·cases h
    ·exact h
   subst this
   obtain ⟨hxs', _, lx, ccx, fx, hxI, hxR⟩ := SliceC.flat hxc hT.pos
   have hax : ∀ c, c < xs.length * e1 → ax = ⟨ax.block, ax.off, none⟩ := fun c hc => addr_eta (hxs' (by
    rcases Nat.eq_zero_or_pos xs.length with h0 | h0
    ·rw [h0] at hc; simp at hc
    ·exact h0))
   obtain ⟨newCap, rest, hcap, hrest, hrun⟩ := append_grow_run (P := P) (w := w) (ty := ty) (n := xs.length) (m := ys.length) (cap := xs.length) (c := cy) (base := some ax) (a := ay) (f := fx) (g := fy) hT hu (by omega)
    hmost (fun b e c hc => by injection e with e; subst e; rw [hax c hc, addr_add]; exact h.rel.imm _ _ _ (hxI c hc)) (fun e => by cases e) hgy
   refine ⟨_, _, hrun, ?_⟩
   rw [h.cur_eq]
   exact append_new h hT.pos rfl lx ly ccx ccy hxR hyR hcap hrest
  | tok d g =>
   simp only at ha
   split at ha
   case isFalse => cases ha
   rename_i htok
   injection ha with ha
   injection ha with h1 h2
   subst h1 h2
   have : e1 = e2 := by
    rcases he1 with h | h
    ·cases h
    ·exact h
   subst this
   cases hx with
   | cl hx => cases hx with
    | slice f ho => rcases ho with h | ⟨h, _⟩ <;> cases h
    | empty ho => rcases ho with h | h <;> cases h
   | tok T gr hd hg ht hes hxc hn =>
   rename_i ax cx
   obtain ⟨r, gr', hr, hg'⟩ := h.rec_ hd
   rw [hg] at hg'
   injection hg' with hg'
   subst hg'
   have hrr := h.rel.rec_ d r gr hr hg
   have hrt : r.toks[g]? = some (some xs.length) := by
    have := htok.2
    simp only [Sig.tok, hr, Option.bind_some] at this
    cases hq : r.toks[g]? with
    | none => rw [hq] at this; cases this
    | some q => rw [hq] at this; simp only [Option.join_some] at this; rw [this]
   obtain ⟨hTn, hT2⟩ := hrr.tok g (some xs.length) T hrt ht
   obtain ⟨hle, heq⟩ := hn _ hTn
   obtain ⟨rfl, rfl⟩ := heq rfl
   obtain ⟨_, _, lx, ccx, fx, hxI, hxR⟩ := SliceC.flat hxc hT.pos
   obtain ⟨_, _, _, _, _, arr, tb, t6, t7⟩ := hT2 _ rfl
   by_cases hroom : xs.length + ys.length ≤ T.cap
   ·refine ⟨_, _, append_room_run (P := P) (ty := ty) (n := xs.length) (m := ys.length) (c := cy) (a := ay) (g := fy) hT hu hroom hgy t6 (by rw [t7, hes]; exact Nat.mul_le_mul_right _ hroom) (fun c hc => ?_), ?_⟩
    ·have h1 : c / e1 < ys.length := by rw [Nat.div_lt_iff_lt_mul hT.pos]; exact hc
     have h2 : c % e1 < (ys[c / e1]).length := by rw [ly _ (List.getElem_mem h1)]; exact Nat.mod_lt _ hT.pos
     have hr := hyR _ h1 _ h2
     rw [Nat.div_add_mod'] at hr
     exact oneCell_of_rel (G := G) (k := k) (nl := nl) (.cl hr) (ccy _ (List.getElem_mem h1) _ (List.getElem_mem h2))
    ·exact append_room h hd hr hg hrt ht hes hT.pos rfl hy0 hroom lx ly ccx ccy (fun c hc => by have := hxI c hc; simpa using this) hxR hyR
   ·obtain ⟨newCap, rest, hcap, hrest, hrun⟩ := append_grow_run (P := P) (w := w) (ty := ty) (n := xs.length) (m := ys.length) (cap := T.cap) (c := cy) (base := some ⟨T.blk, 0, none⟩) (a := ay) (f := fx) (g := fy) hT hu hroom
     hmost (fun b e c hc => by injection e with e; subst e; rw [addr_add]; exact h.rel.imm _ _ _ (hxI c hc)) (fun e => by cases e) hgy
    refine ⟨_, _, hrun, ?_⟩
    exact append_move h hd hr hg hrt ht hes hT.pos rfl hy0 lx ly ccx ccy hxR hyR hcap hrest
end
end Go.Ax

/-
  append to a slice whose elements may be written to: a box that takes another's place.
-/
namespace Go.Ax
open Go.RowKit
section
variable {P : Program} {B0 : Nat} {w0 : World} {G : Ghost} {k nl : Nat} {w : World} {s : Sig}
theorem At.drew (h : At P B0 w0 G k nl s w) : At P B0 w0 G k nl s w.drew := ⟨h.rel.drew, h.len, h.cur⟩
theorem flatten_get {α : Type} {es : Nat} (h0 : 0 < es) : ∀ {ys : List (List α)}, (∀ r, r ∈ ys → r.length = es) → ys.flatten.length = ys.length * es ∧ ∀ c (hc : c < ys.flatten.length), ∃ (h1 : c / es < ys.length) (h2 : c % es < (ys[c / es]).length), ys.flatten[c] = ys[c / es][c % es]
 | [], _ => ⟨by simp, fun c hc => by simp at hc⟩
 | r :: ys, h => by
  have hr := h r (by simp)
  obtain ⟨e1, e2⟩ := flatten_get h0 (ys := ys) fun q hq => h q (List.mem_cons_of_mem _ hq)
  refine ⟨by rw [List.flatten_cons, List.length_append, e1, hr, List.length_cons, Nat.add_mul]; omega, fun c hc => ?_⟩
  by_cases hlt : c < es
  ·have d1 : c / es = 0 := Nat.div_eq_of_lt hlt
   have d2 : c % es = c := Nat.mod_eq_of_lt hlt
   refine ⟨by rw [d1]; simp, by simp only [d1, d2, List.getElem_cons_zero]; omega, ?_⟩
   simp only [d1, d2, List.getElem_cons_zero, List.flatten_cons]
   rw [List.getElem_append_left (by omega)]
  ·have hge : es ≤ c := by omega
   have d1 : c / es = (c - es) / es + 1 := by rw [Nat.div_eq_sub_div h0 hge]
   have d2 : c % es = (c - es) % es := by rw [Nat.mod_eq_sub_mod hge]
   have hc' : c - es < ys.flatten.length := by
    rw [List.flatten_cons, List.length_append, hr] at hc
    omega
   obtain ⟨g1, g2, g3⟩ := e2 (c - es) hc'
   refine ⟨by rw [d1]; simp; exact g1, by simp only [d1, d2, List.getElem_cons_succ]; exact g2, ?_⟩
   simp only [d1, d2, List.getElem_cons_succ, List.flatten_cons]
   rw [List.getElem_append_right (by omega)]
   simp only [hr]
   exact g3
theorem regrow_sound (h : At P B0 w0 G k nl s w) {b es n rc : Nat} {cs ds : List AV} {r : Rec} {gr : GRec} {blk blk' : Nat} {arr' : Array Value} {ty' : TypeId} {w' : World} (hr : s.acts[k]? = some r) (hg : G.acts[k]? = some gr)
  (hb : r.boxes[b]? = some cs) (hbl : gr.bl[b]? = some (some blk)) (hcs : cs ≠ []) (hne : ds ≠ []) (hcell : ∀ c, c ∈ ds → c.isCell = true) (hR : RowLe (Rel G k nl) ds arr') (hw : w'.heap[blk']? = some (.cells arr' ty'))
  (hold : ∀ c, c < w.heap.size → c ≠ blk' → w'.heap[c]? = w.heap[c]?) (hnew : blk' = blk ∨ blk' = w.heap.size) (hbelow : Below B0 w w') (hsz : w.heap.size ≤ w'.heap.size) (hsize : arr'.size = rc * es) (hn : n ≤ rc) :
  StepTo P B0 w0 G k nl s (s.regrow b ds) w' (.rsl s.cur (s.nbox s.cur) 0 es n 0) (.slice (some ⟨blk', 0, none⟩) n rc) := by
 have hnl : gr.nl = nl := by obtain ⟨g', e1, e2⟩ := h.cur; rw [hg] at e1; injection e1 with e1; rw [e1]; exact e2
 have hrr := h.rel.rec_ k r gr hr hg
 have hbx := hrr.box b cs blk hb hbl
 obtain ⟨b1, ⟨x0, b2, b2'⟩, b3, arr0, ty0, b4, _⟩ := hbx
 have hx0 := b2' hcs
 have b3 := b3 hcs
 subst hx0
 have hblk := h.rel.ownlt _ _ b2
 have hlt' : blk' < w'.heap.size := by
  rcases hnew with e | e
  ·omega
  ·rw [e]
   apply Classical.byContradiction
   intro hc
   rw [e] at hw
   have := (Array.getElem?_eq_some_iff.1 hw).1
   omega
 have hI' : ∀ i, G.I blk' i = none := by
  rcases hnew with e | e
  ·rw [e]; exact b3
  ·rw [e]; exact h.rel.I_new
 have hB : B0 ≤ blk' := by
  rcases hnew with e | e
  ·rw [e]; exact b1
  ·rw [e]; exact h.rel.low
 have hbnd : x0 < r.boxes.length := (List.getElem?_eq_some_iff.1 hb).1
 let T : TokG := ⟨none, 0, 0, 0⟩
 let gf : GRec → GRec := fun q => { q with bl := q.bl ++ [some blk'], tk := q.tk ++ [T], gs := fun j => if j = r.boxes.length then some (rc * es) else q.gs j }
 let G' : Ghost := { G with acts := G.acts.modify k gf, own := fun c => if c = blk' then some (.box k r.boxes.length) else G.own c }
 have hk : KeepsOwn (· = .box k x0) G w G' w' := fun c o e hne => by
  have hlt := h.rel.ownlt c o e
  have hc : c ≠ blk' := by
   rintro rfl
   rcases hnew with e' | e'
   ·rw [e', b2] at e; injection e with e; exact hne e.symm
   ·omega
  exact ⟨by simp only [G']; rw [if_neg hc]; exact e, hold c hlt hc, fun _ e => e⟩
 have hle0 : RecLe gr (gf gr) := ⟨fun j q e => get_old e, fun g U e => ⟨U, get_old e, .refl U⟩, rfl, fun j m e => by
  obtain ⟨q, hq⟩ := hrr.gsl j m e
  have := (List.getElem?_eq_some_iff.1 hq).1
  rw [hrr.blen] at this
  simp only [gf]
  rw [if_neg (by omega)]; exact e⟩
 have hle : GLe k nl G G' := ⟨fun _ _ _ e => e, fun d q _ e => by
  simp only [G', modify_get]
  by_cases hd : k = d
  ·subst hd
   rw [hg] at e
   injection e with e
   subst e
   exact ⟨_, by rw [if_pos rfl, hg]; rfl, hle0, fun _ => rfl⟩
  ·exact ⟨q, by rw [if_neg hd]; exact e, .refl q, fun _ => rfl⟩, fun _ _ _ e => e⟩
 have hstep := h.rel.onRec (G' := G') (w' := w') hr hg (fun r => { r with boxes := r.boxes.set x0 [] ++ [ds], toks := r.toks ++ [none] }) gf (· = .box k x0) rfl rfl (fun _ _ _ e => e) hle0 rfl hk
  (fun o ho => .inl ⟨_, ho⟩) ?_ (fun c i v e => ?_) hbelow (fun c o e => ?_)
 ·obtain ⟨hs, hle'⟩ := hstep
  have hs' : SRel P B0 w0 G' (s.regrow x0 ds) w' := by
   simp only [Sig.regrow, h.cur_eq]
   exact hs
  have hlen : (s.regrow x0 ds).acts.length = s.acts.length := by simp [Sig.regrow, Sig.onRec]
  have hat := h.to hs' hle hlen
  have hnb : s.nbox s.cur = r.boxes.length := by simp [Sig.nbox, h.cur_eq, hr]
  have hga : G'.acts[k]? = some (gf gr) := by
   show (G.acts.modify k _)[k]? = _
   rw [modify_get, if_pos rfl, hg]; rfl
  have hgb : (gf gr).bl[r.boxes.length]? = some (some blk') := by
   show (gr.bl ++ [some blk'])[r.boxes.length]? = _
   rw [← hrr.blen, List.getElem?_append_right (Nat.le_refl _)]
   simp
  refine ⟨G', hat, hle' _ _, by simp [Sig.regrow, Sig.onRec], ?_⟩
  rw [hnb, h.cur_eq]
  exact .rsl _ (Nat.le_refl _) hga hgb hn (Nat.zero_le _) (fun _ _ => by simp only [gf]; rw [if_pos trivial]) (fun _ => rfl)
 ·have hset : ∀ (j : Nat) (q : List AV), (r.boxes.set x0 [] ++ [ds])[j]? = some q → (j = r.boxes.length ∧ q = ds) ∨ (j = x0 ∧ q = []) ∨ (j ≠ x0 ∧ j < r.boxes.length ∧ r.boxes[j]? = some q) := fun j q e => by
   rcases get_push e with ⟨hj, e⟩ | ⟨hj, e⟩
   ·rw [List.length_set] at hj
    rw [List.getElem?_set] at e
    by_cases hjx : x0 = j
    ·subst hjx
     rw [if_pos rfl, if_pos hj] at e
     injection e with e
     exact .inr (.inl ⟨rfl, e.symm⟩)
    ·rw [if_neg hjx] at e
     exact .inr (.inr ⟨fun e => hjx e.symm, hj, e⟩)
   ·rw [List.length_set] at hj
    exact .inl ⟨hj, e⟩
  have hblold : ∀ (j q : Nat), j < r.boxes.length → (gf gr).bl[j]? = some (some q) → gr.bl[j]? = some (some q) := fun j q hj e => by
   rcases get_push e with ⟨_, e⟩ | ⟨hj', _⟩
   ·exact e
   ·rw [hrr.blen] at hj'; omega
  have dead : ∀ (j q : Nat), gr.bl[j]? = some (some q) → j < r.boxes.length → BoxRel B0 G' k gr.nl j ((gf gr).gs j) [] q w' := fun j q e hj => by
   obtain ⟨q1, ⟨x, q2, q2'⟩, q3, arr1, ty1, q4, _⟩ := hrr.box j _ q (List.getElem?_eq_getElem hj) e
   by_cases hqb : q = blk'
   ·subst hqb
    exact ⟨q1, ⟨r.boxes.length, by simp [G'], fun hn => absurd rfl hn⟩, fun hn => absurd rfl hn, arr', ty', hw, Nat.zero_le _, fun hn => absurd rfl hn, fun i hi => absurd hi (Nat.not_lt_zero _)⟩
   ·exact ⟨q1, ⟨x, by simp only [G']; rw [if_neg hqb]; exact q2, fun hn => absurd rfl hn⟩, fun hn => absurd rfl hn, arr1, ty1, (hold q (h.rel.ownlt _ _ q2) hqb).trans q4, Nat.zero_le _, fun hn => absurd rfl hn, fun i hi => absurd hi (Nat.not_lt_zero _)⟩
  refine ⟨by simp [gf, hrr.blen], by simp [gf, hrr.tlen], fun j q blk2 e1 e2 => ?_, fun j q e1 e2 => by simp, fun g m U e1 e2 => ?_, fun i c e1 => ?_, fun j m e1 => ?_⟩
  ·rcases hset j q e1 with ⟨rfl, rfl⟩ | ⟨rfl, rfl⟩ | ⟨hjx, hj, e1⟩
   ·have hbb : blk2 = blk' := by
     rcases get_push e2 with ⟨hj', _⟩ | ⟨_, e⟩
     ·rw [hrr.blen] at hj'; omega
     ·injection e
    subst hbb
    refine ⟨hB, ⟨_, by simp [G'], fun _ => rfl⟩, fun _ => hI', arr', ty', hw, hR.1, fun _ m hm => ?_, fun i hi => ⟨hcell _ (List.getElem_mem hi), ?_⟩⟩
    ·simp only [gf] at hm
     rw [if_pos trivial] at hm
     injection hm with hm
     rw [hsize, hm]
    ·have := (hR.2 i hi).mono hle (Nat.le_refl _) (Nat.le_refl _)
     show Rel G' k gr.nl _ _
     rw [hnl]; exact this
   ·exact dead _ _ (hblold _ _ hbnd e2) hbnd
   ·have e2' := hblold _ _ hj e2
    by_cases hq0 : q = []
    ·subst hq0; exact dead _ _ e2' hj
    ·have hjb := hrr.box j q blk2 e1 e2'
     obtain ⟨x, y1, y2⟩ := hjb.2.1
     obtain ⟨k1, k2, k3⟩ := hk _ _ y1 (fun e => by injection e with _ e; rw [y2 hq0] at e; exact hjx e)
     have := hjb.keep (G' := G') (w' := w') (by rw [hnl]; exact hle) (fun z e => by rw [y1] at e; injection e with e; rw [← e]; exact k1) k2 k3
     show BoxRel B0 G' k gr.nl j (if j = r.boxes.length then some (rc * es) else gr.gs j) q blk2 w'
     rw [if_neg (by omega)]; exact this
  ·rcases get_push e1 with ⟨hlt, e1⟩ | ⟨hgl, rfl⟩
   ·have e2' : gr.tk[g]? = some U := by
     rcases get_push e2 with ⟨_, e2⟩ | ⟨hb', _⟩
     ·exact e2
     ·rw [hrr.tlen] at hb'; omega
    have ht := hrr.tok g m U e1 e2'
    have hs : ∀ (hn : m.isSome = true), G'.own U.blk = some (.tok k g) ∧ w'.heap[U.blk]? = w.heap[U.blk]? ∧ ∀ i, G.I U.blk i = none → G'.I U.blk i = none := fun hn => by
     obtain ⟨q, hq⟩ := Option.isSome_iff_exists.1 hn
     exact hk _ _ (ht.2 q hq).2.1 (fun e => by cases e)
    exact ht.keep (fun hn => (hs hn).1) (fun hn => (hs hn).2.1) (fun hn => (hs hn).2.2)
   ·have : U = T := by
     rcases get_push e2 with ⟨hb', _⟩ | ⟨_, e⟩
     ·rw [hrr.tlen] at hb'; omega
     ·exact e
    subst this
    exact ⟨rfl, fun q hq => by cases hq⟩
  ·have hm := hrr.mark i c e1
   obtain ⟨k1, k2, _⟩ := hk _ _ hm.2.1 (fun e => by cases e)
   exact hm.keep k1 k2
  ·simp only [gf] at e1
   split at e1
   ·rename_i hj
    subst hj
    refine ⟨blk', ?_⟩
    show (gr.bl ++ [some blk'])[r.boxes.length]? = _
    rw [← hrr.blen, List.getElem?_append_right (Nat.le_refl _)]
    simp
   ·obtain ⟨q, hq⟩ := hrr.gsl j m e1
    exact ⟨q, get_old hq⟩
 ·have hc : c ≠ blk' := by
   rintro rfl
   have : G.I c i = some v := e
   rw [hI'] at this; cases this
  rw [cells_congr (hold c (h.rel.I_lt e) hc) rfl]
  exact h.rel.imm c i v e
 ·simp only [G'] at e
  split at e
  ·rename_i hb; subst hb; exact hlt'
  ·have := h.rel.ownlt c o e; omega
theorem setA_getM : ∀ (vs : List Value) (arr : Array Value) (o i : Nat), o + vs.length ≤ arr.size → (setA arr o vs).getD i Go.undef = if o ≤ i ∧ i < o + vs.length then vs.getD (i - o) Go.undef else arr.getD i Go.undef
 | [], arr, o, i, _ => by
  rw [if_neg (by simp only [List.length_nil]; omega)]; rfl
 | v :: r, arr, o, i, h => by
  have hl : (v :: r).length = r.length + 1 := rfl
  rw [hl] at h ⊢
  simp only [setA]
  rw [setA_getM r (arr.setIfInBounds o v) (o + 1) i (by simp; omega)]
  by_cases h1 : i = o
  ·subst h1
   rw [if_neg (by omega), if_pos (by omega)]
   have : i < arr.size := by omega
   simp [Array.getD, this]
  ·by_cases h2 : o + 1 ≤ i ∧ i < o + 1 + r.length
   ·rw [if_pos h2, if_pos (by omega)]
    obtain ⟨j, hj⟩ : ∃ j, i - o = j + 1 := ⟨i - o - 1, by omega⟩
    rw [hj, show i - (o + 1) = j by omega]; rfl
   ·rw [if_neg h2, if_neg (by omega)]
    by_cases h3 : i < arr.size
    ·have h4 : ¬ o = i := fun e => h1 e.symm
     simp [Array.getD, h3, h4]
    ·simp [Array.getD, h3]
theorem row_both {cs ds : List AV} {f g : Nat → Value} {rest : List Value} {n m : Nat} {R : AV → Value → Prop} (hn : cs.length = n) (hm : ds.length = m) (hc : ∀ i (hi : i < cs.length), R cs[i] (f i)) (hd : ∀ i (hi : i < ds.length), R ds[i] (g i)) :
  RowLe R (cs ++ ds) ((List.range (n + m)).map (both n f g) ++ rest).toArray := by
 refine ⟨by simp; omega, fun i hi => ?_⟩
 rw [List.length_append] at hi
 have hget : ((List.range (n + m)).map (both n f g) ++ rest).toArray.getD i Go.undef = both n f g i := by
  have h1 : i < n + m := by omega
  have h2 : i < n + m + rest.length := by omega
  simp only [Array.getD, List.size_toArray, List.length_append, List.length_map, List.length_range, h2, dite_true]
  simp [List.getElem_append, h1]
 rw [hget]
 unfold both
 by_cases hl : i < cs.length
 ·rw [List.getElem_append_left hl, if_pos (by omega)]; exact hc i hl
 ·rw [List.getElem_append_right (by omega), if_neg (by omega)]
  subst hn
  exact hd (i - cs.length) (by omega)
theorem appendm_sound (h : At P B0 w0 G k nl s w) {t u e ty : TypeId} {es by_ : Nat} {z : Value} (hT : ElemT P t e es by_ z) (hu : ∃ e', P.underlying u = some (.slice e')) {a b v : AV} {x y : Value} {s' : Sig}
  (hx : Rel G k nl a x) (hy : Rel G k nl b y) (ha : appendmOp s es a b = some (v, s')) :
  ∃ x' w', (Builtin.append_ #[t, u] ty #[x, y]).run P w = .ok x' w' ∧ StepTo P B0 w0 G k nl s s' w' v x' := by
 unfold appendmOp at ha
 split at ha
 case h_2 => cases ha
 rename_i oy e2 ys
 split at ha
 ·rename_i hys
  have hys : ys = [] := by simpa using hys
  subst hys
  have hyc : ∃ bb c, y = .slice bb 0 c := by
   rcases hy.inv_slice with ⟨_, _, rfl⟩ | ⟨_, aa, c, rfl, _⟩
   ·exact ⟨_, _, rfl⟩
   ·exact ⟨_, _, rfl⟩
  obtain ⟨bb, c, rfl⟩ := hyc
  split at ha
  ·rename_i o e1 xs
   injection ha with ha
   injection ha with h1 h2
   subst h1 h2
   have hself : StepTo P B0 w0 G k nl s s w (.slice o e1 xs) x := ⟨G, h, GLe.refl _ _ _, rfl, hx⟩
   rcases hx.inv_slice with ⟨_, _, rfl⟩ | ⟨_, aa, cap, rfl, _, hle, _⟩
   ·exact ⟨_, w, append_none_run hT hu none bb c (Nat.le_refl _), hself⟩
   ·exact ⟨_, w, append_none_run hT hu (some aa) bb c hle, hself⟩
  ·rename_i d b off e1 n cap
   injection ha with ha
   injection ha with h1 h2
   subst h1 h2
   have hself : StepTo P B0 w0 G k nl s s w (.rsl d b off e1 n cap) x := ⟨G, h, GLe.refl _ _ _, rfl, hx⟩
   obtain ⟨blk, gr, rc, o0, rfl, _, _, _, hn, _⟩ := hx.inv_rsl
   exact ⟨_, w, append_none_run hT hu (some _) bb c hn, hself⟩
  ·cases ha
 ·rename_i hys
  split at ha
  case isFalse => cases ha
  rename_i he2
  subst he2
  have hy0 : 0 < ys.length := by
   cases ys with
   | nil => simp at hys
   | cons => simp
  rcases hy.inv_slice with ⟨_, hn, _⟩ | ⟨_, ay, cy, rfl, _, _, hyc, _⟩
  ·rw [hn] at hy0; simp at hy0
  obtain ⟨hys', hcy, ly, ccy, fy, hyI, hyR⟩ := SliceC.flat hyc hT.pos
  have hay : ay = ⟨ay.block, ay.off, none⟩ := addr_eta (hys' (by omega))
  have hgy : ∀ c, c < ys.length * e2 → w.cell? (ay.add c) = some (fy c) := fun c hc => by
   rw [hay, addr_add]; exact h.rel.imm _ _ _ (hyI c hc)
  obtain ⟨fl1, fl2⟩ := flatten_get hT.pos ly
  have hyflat : ∀ c (hc : c < ys.flatten.length), RelC G.I ys.flatten[c] (fy c) := fun c hc => by
   obtain ⟨g1, g2, g3⟩ := fl2 c hc
   rw [g3]
   have := hyR _ g1 _ g2
   rw [Nat.div_add_mod'] at this
   exact this
  have hycell : ∀ c, c ∈ ys.flatten → c.isCell = true := fun c hc => by
   obtain ⟨r, hr, hcr⟩ := List.mem_flatten.1 hc
   exact ccy r hr c hcr
  have hyne : ys.flatten ≠ [] := fun e => by
   have := congrArg List.length e
   rw [fl1] at this
   have h2 := Nat.mul_pos hy0 hT.pos
   simp only [List.length_nil] at this
   omega
  split at ha
  ·rename_i o e1 xs
   split at ha
   case isFalse => cases ha
   rename_i hcond
   obtain ⟨hcond, hmost⟩ := hcond
   injection ha with ha
   injection ha with h1 h2
   subst h1 h2
   have fin : ∀ (base : Option Addr) (cx : Nat) (f : Nat → Value), cx = xs.length → (∀ r, r ∈ xs → r.length = e2) → (∀ r, r ∈ xs → ∀ c, c ∈ r → c.isCell = true) → (∀ i (hi : i < xs.length) j (hj : j < xs[i].length), RelC G.I (xs[i][j]) (f (i * e2 + j))) →
     (∀ b, base = some b → ∀ c, c < xs.length * e2 → w.cell? (b.add c) = some (f c)) → (base = none → xs.length = 0) →
     ∃ x' w', (Builtin.append_ #[t, u] ty #[.slice base xs.length cx, .slice (some ay) ys.length cy]).run P w = .ok x' w' ∧ StepTo P B0 w0 G k nl s (s.newBox (xs.flatten ++ ys.flatten)).2 w' (.rsl s.cur (s.nbox s.cur) 0 e2 (xs.length + ys.length) 0) x' := by
    intro base cx f hcx lx ccx hxR hf hf0
    subst hcx
    obtain ⟨newCap, rest, hcap, hrest, hrun⟩ := append_grow_run (P := P) (w := w) (ty := ty) (n := xs.length) (m := ys.length) (cap := xs.length) (c := cy) (base := base) (a := ay) (f := f) (g := fy) hT hu (by omega) hmost hf hf0 hgy
    refine ⟨_, _, hrun, ?_⟩
    obtain ⟨gl1, gl2⟩ := flatten_get hT.pos lx
    have hxflat : ∀ c (hc : c < xs.flatten.length), RelC G.I xs.flatten[c] (f c) := fun c hc => by
     obtain ⟨g1, g2, g3⟩ := gl2 c hc
     rw [g3]
     have := hxR _ g1 _ g2
     rw [Nat.div_add_mod'] at this
     exact this
    have hrow := row_both (R := Rel G k nl) (cs := xs.flatten) (ds := ys.flatten) (f := f) (g := fy) (rest := rest) gl1 fl1 (fun i hi => .cl (hxflat i hi)) (fun i hi => .cl (hyflat i hi))
    have hsz : ((List.range (xs.length * e2 + ys.length * e2)).map (both (xs.length * e2) f fy) ++ rest).toArray.size = newCap * e2 := by
     simp only [List.size_toArray, List.length_append, List.length_map, List.length_range, hrest]
     rw [← Nat.add_mul, ← Nat.add_mul]
     congr 1; omega
    exact (newBox_sound h.drew e (some (newCap * e2)) (fun n hn => by injection hn with hn; rw [hsz, hn]) (fun e => hyne (List.append_eq_nil_iff.1 e).2) (fun c hc => by
     rcases List.mem_append.1 hc with hc | hc
     ·obtain ⟨r, hr, hcr⟩ := List.mem_flatten.1 hc
      exact ccx r hr c hcr
     ·exact hycell c hc) hrow).2.2 e2 (xs.length + ys.length) 0 newCap hcap (Nat.zero_le _) (fun _ _ => rfl)
   rcases hx.inv_slice with ⟨_, rfl, rfl⟩ | ⟨hnn, ax, cx, rfl, _, _, hxc, hfull⟩
   ·exact fin none 0 (fun _ => Go.undef) rfl (by simp) (by simp) (fun i hi => absurd hi (Nat.not_lt_zero _)) (fun _ e => by cases e) (fun _ => rfl)
   ·rcases hcond with hc | ⟨hc, he⟩
    ·cases o <;> simp [Own.isNil] at hc
     exact absurd rfl hnn
    ·subst he
     have ho : o = .full := by cases o <;> simp [Own.isFull] at hc ⊢
     have hcx := hfull ho
     obtain ⟨hxs', _, lx, ccx, fx, hxI, hxR⟩ := SliceC.flat hxc hT.pos
     have hax : ∀ c, c < xs.length * e1 → ax = ⟨ax.block, ax.off, none⟩ := fun c hc => addr_eta (hxs' (by
      rcases Nat.eq_zero_or_pos xs.length with h0 | h0
      ·rw [h0] at hc; simp at hc
      ·omega))
     exact fin (some ax) cx fx hcx lx ccx hxR (fun b e c hc => by injection e with e; subst e; rw [hax c hc, addr_add]; exact h.rel.imm _ _ _ (hxI c hc)) (fun e => by cases e)
  ·rename_i d b off e1 n cap
   split at ha
   case isFalse => cases ha
   rename_i hcond
   obtain ⟨rfl, rfl, rfl, hn0, rfl, hmost⟩ := hcond
   split at ha
   case h_2 => cases ha
   rename_i cs hbox
   split at ha
   case isFalse => cases ha
   rename_i hcl
   injection ha with ha
   injection ha with h1 h2
   subst h1 h2
   rw [h.cur_eq] at hbox hx
   obtain ⟨blk, gr, rc, o0, rfl, hd, hg, hbl, hnr, _, hw, ho⟩ := hx.inv_rsl
   have ho := ho (.inl hn0)
   subst ho
   have hgs := hw rfl hn0
   obtain ⟨r, hr, hbx, hbrel, arr, tb, hheap, hrow, hrcell⟩ := h.box hd hbox hg hbl
   have hcs : cs ≠ [] := fun e => by
    rw [e] at hcl
    have := Nat.mul_pos hn0 hT.pos
    simp only [List.length_nil] at hcl
    omega
   obtain ⟨_, _, hI0, arr1, tb1, hheap1, _, hsz1, _⟩ := hbrel
   rw [hheap] at hheap1
   injection hheap1 with hheap1
   injection hheap1 with q1 q2
   subst q1 q2
   have hasz := hsz1 hcs _ hgs
   have hne : cs ++ ys.flatten ≠ [] := fun e => hyne (List.append_eq_nil_iff.1 e).2
   have hallc : ∀ c, c ∈ cs ++ ys.flatten → c.isCell = true := fun c hc => by
    rcases List.mem_append.1 hc with hc | hc
    ·exact hrcell c hc
    ·exact hycell c hc
   by_cases hroom : n + ys.length ≤ rc
   ·have hle : (n + ys.length) * e1 ≤ arr.size := by rw [hasz]; exact Nat.mul_le_mul_right _ hroom
    refine ⟨_, _, append_room_run (P := P) (ty := ty) (n := n) (m := ys.length) (c := cy) (a := ay) (g := fy) hT hu hroom hgy hheap hle (fun c hc => ?_), ?_⟩
    ·have h1 : c / e1 < ys.length := by rw [Nat.div_lt_iff_lt_mul hT.pos]; exact hc
     have h2 : c % e1 < (ys[c / e1]).length := by rw [ly _ (List.getElem_mem h1)]; exact Nat.mod_lt _ hT.pos
     have hr := hyR _ h1 _ h2
     rw [Nat.div_add_mod'] at hr
     exact oneCell_of_rel (G := G) (k := k) (nl := nl) (.cl hr) (ccy _ (List.getElem_mem h1) _ (List.getElem_mem h2))
    ·have hB := (h.rel.rec_ k r gr hr hg).box b cs blk hbx hbl
     refine regrow_sound h hr hg hbx hbl hcs hne hallc (arr' := setA arr (n * e1) ((List.range (ys.length * e1)).map fy)) ?_ (heap_setCells _ _ _ _ hheap) (fun c _ hc => heap_setCells_other hc _ _ _) (.inl rfl) (below_setCells hB.1 _ _ _) (by rw [size_setCells]; exact Nat.le_refl _) (by rw [setA_size]; exact hasz) hroom
     rw [Nat.add_mul] at hle
     refine ⟨by rw [setA_size, List.length_append, hcl, fl1]; exact hle, fun i hi => ?_⟩
     rw [List.length_append, hcl, fl1] at hi
     rw [setA_getM _ _ _ _ (by simpa using hle)]
     by_cases hl : i < cs.length
     ·rw [List.getElem_append_left hl, if_neg (by omega)]; exact hrow.2 i hl
     ·rw [List.getElem_append_right (by omega), if_pos (by simp; omega)]
      have hi2 : i - n * e1 < ys.length * e1 := by omega
      have := hyflat (i - cs.length) (by rw [fl1]; omega)
      have hgd : ((List.range (ys.length * e1)).map fy).getD (i - n * e1) Go.undef = fy (i - cs.length) := by
       rw [hcl]
       simp [List.getD, hi2]
      rw [hgd]
      exact .cl this
   ·obtain ⟨newCap, rest, hcap, hrest, hrun⟩ := append_grow_run (P := P) (w := w) (ty := ty) (n := n) (m := ys.length) (cap := rc) (c := cy) (base := some ⟨blk, 0, none⟩) (a := ay) (f := fun c => arr.getD c Go.undef) (g := fy) hT hu hroom
     hmost (fun b e c hc => by
      injection e with e; subst e
      rw [addr_add, cell_of_heap hheap, Nat.zero_add]
      have : c < arr.size := by
       have := hrow.1
       rw [hcl] at this; omega
      simp [Array.getD, this]) (fun e => by cases e) hgy
    refine ⟨_, _, hrun, ?_⟩
    have hrow2 := row_both (R := Rel G k nl) (cs := cs) (ds := ys.flatten) (f := fun c => arr.getD c Go.undef) (g := fy) (rest := rest) hcl fl1 hrow.2 (fun i hi => .cl (hyflat i hi))
    have hsz : ((List.range (n * e1 + ys.length * e1)).map (both (n * e1) (fun c => arr.getD c Go.undef) fy) ++ rest).toArray.size = newCap * e1 := by
     simp only [List.size_toArray, List.length_append, List.length_map, List.length_range, hrest]
     rw [← Nat.add_mul, ← Nat.add_mul]
     congr 1; omega
    exact regrow_sound h hr hg hbx hbl hcs hne hallc hrow2 (World.alloc_heap_new w.drew _) (fun c hc _ => Below.heap_alloc w.drew _ _ hc) (.inr rfl) (((Below.refl _ _).drew).alloc h.rel.low _) (by simp) hsz hcap
  ·cases ha
end
end Go.Ax

/-
  Stores: what goes into an outer activation's box.
-/
namespace Go.Ax
open Go.RowKit
section
variable {P : Program} {B0 : Nat} {w0 : World} {G : Ghost} {k nl : Nat} {w : World} {s : Sig}
theorem ntok_eq {s : Sig} {d : Nat} {r : Rec} (h : s.acts[d]? = some r) : s.ntok d = r.toks.length := by simp [Sig.ntok, h]
theorem tok_eq {s : Sig} {d g n : Nat} (h : s.tok d g = some n) : ∃ r, s.acts[d]? = some r ∧ r.toks[g]? = some (some n) := by
 unfold Sig.tok at h
 cases hr : s.acts[d]? with
 | none => rw [hr] at h; cases h
 | some r =>
  rw [hr] at h
  simp only [Option.bind_some] at h
  cases hq : r.toks[g]? with
  | none => rw [hq] at h; cases h
  | some q => rw [hq] at h; simp only [Option.join_some] at h; subst h; exact ⟨r, rfl, hq⟩
theorem dropTok (h : SRel P B0 w0 G s w) {d g n : Nat} {r : Rec} {gr : GRec} {T : TokG} (hr : s.acts[d]? = some r) (hg : G.acts[d]? = some gr) (hrt : r.toks[g]? = some (some n)) (hgt : gr.tk[g]? = some T) :
  ∃ G', G'.acts = G.acts.modify d (fun q => { q with tk := q.tk.set g { T with n := none } }) ∧ G'.I = G.I ∧ G'.own T.blk = none ∧ (∀ b o, G'.own b = some o → G.own b = some o ∧ b ≠ T.blk) ∧ SRel P B0 w0 G' (s.setTok d g none) w ∧ ∀ k nl, GLe k nl G G' := by
 have hrr := h.rec_ d r gr hr hg
 obtain ⟨hTn, hT2⟩ := hrr.tok g (some n) T hrt hgt
 obtain ⟨t1, t2, t3, t4, t5, arr, ty, t6, t7⟩ := hT2 _ rfl
 let G' : Ghost := { G with acts := G.acts.modify d fun q => { q with tk := q.tk.set g { T with n := none } }, own := fun b => if b = T.blk then none else G.own b }
 have hk : KeepsOwn (· = .tok d g) G w G' w := fun b o ho hne => by
  refine ⟨?_, rfl, fun _ e => e⟩
  simp only [G']
  rw [if_neg]
  ·exact ho
  ·rintro rfl
   rw [t2] at ho
   injection ho with ho
   exact hne ho.symm
 have hle0 : RecLe gr { gr with tk := gr.tk.set g { T with n := none } } := ⟨fun b blk e => e, fun j U e => by
  by_cases hj : j = g
  ·subst hj
   rw [hgt] at e
   injection e with e
   subst e
   exact ⟨_, set_same hgt, rfl, .inr (.inl rfl)⟩
  ·exact ⟨U, by show (gr.tk.set g _)[j]? = _; rw [List.getElem?_set, if_neg (fun e => hj e.symm)]; exact e, .refl U⟩, rfl, fun _ _ e => e⟩
 have hgle : GLe d gr.nl G G' := ⟨fun _ _ _ e => e, fun d' q _ e => by
  show ∃ gr', (G.acts.modify d _)[d']? = some gr' ∧ _
  rw [modify_get]
  by_cases hdd : d = d'
  ·subst hdd
   rw [hg] at e
   injection e with e
   subst e
   exact ⟨_, by rw [if_pos rfl, hg]; rfl, hle0, fun _ => rfl⟩
  ·exact ⟨q, by rw [if_neg hdd]; exact e, .refl q, fun _ => rfl⟩, fun _ _ _ e => e⟩
 have hstep := h.onRec (G' := G') (w' := w) hr hg (fun r => { r with toks := r.toks.set g none }) (fun q => { q with tk := q.tk.set g { T with n := none } }) (· = .tok d g) rfl rfl (fun _ _ _ e => e) hle0 rfl hk
  (fun o ho => .inr ⟨_, ho⟩) ?_ h.imm (Below.refl _ _) (fun b o e => ?_)
 ·refine ⟨G', rfl, rfl, by simp [G'], fun b o e => ?_, hstep.1, hstep.2⟩
  simp only [G'] at e
  split at e
  ·cases e
  ·exact ⟨e, by assumption⟩
 ·refine hrr.tokens (toks' := r.toks.set g none) (tk' := gr.tk.set g { T with n := none }) hgle hk (by simp [hrr.tlen]) (fun hm => none_set hm (.inl rfl)) (fun j p U e1 e2 => ?_)
  rcases set_get e1 with ⟨hne, e1⟩ | ⟨rfl, rfl, _⟩
  ·rcases set_get e2 with ⟨_, e2⟩ | ⟨hj, _⟩
   ·exact .inl ⟨hne, e1, e2⟩
   ·exact absurd hj hne
  ·rcases set_get e2 with ⟨hj, _⟩ | ⟨_, rfl, _⟩
   ·exact absurd rfl hj
   ·exact .inr ⟨rfl, rfl, fun m hm => by cases hm⟩
 ·simp only [G'] at e
  split at e
  ·cases e
  ·exact h.ownlt b o e
theorem addTok_free (h : SRel P B0 w0 G s w) {d n : Nat} {r : Rec} {gr : GRec} {T : TokG} (hr : s.acts[d]? = some r) (hg : G.acts[d]? = some gr) (hfree : G.own T.blk = none) (hTn : T.n = some n)
  (hT : B0 ≤ T.blk ∧ (∀ i, n * T.es ≤ i → G.I T.blk i = none) ∧ n ≤ T.cap ∧ 0 < T.es ∧ ∃ arr ty, w.heap[T.blk]? = some (.cells arr ty) ∧ arr.size = T.cap * T.es) :
  ∃ G', G'.acts = G.acts.modify d (fun q => { q with tk := q.tk ++ [T] }) ∧ G'.I = G.I ∧ SRel P B0 w0 G' (s.addTok d n) w ∧ ∀ k nl, GLe k nl G G' := by
 have hrr := h.rec_ d r gr hr hg
 obtain ⟨t1, t3, t4, t5, arr, ty, t6, t7⟩ := hT
 let G' : Ghost := { G with acts := G.acts.modify d fun q => { q with tk := q.tk ++ [T] }, own := fun b => if b = T.blk then some (.tok d r.toks.length) else G.own b }
 have hk : KeepsOwn (· = .tok d r.toks.length) G w G' w := fun b o ho _ => by
  refine ⟨?_, rfl, fun _ e => e⟩
  simp only [G']
  rw [if_neg]
  ·exact ho
  ·rintro rfl
   rw [hfree] at ho
   cases ho
 have hle0 : RecLe gr { gr with tk := gr.tk ++ [T] } := ⟨fun b blk e => e, fun g U e => ⟨U, get_old e, .refl U⟩, rfl, fun _ _ e => e⟩
 have hgle : GLe d gr.nl G G' := ⟨fun _ _ _ e => e, fun d' q _ e => by
  show ∃ gr', (G.acts.modify d _)[d']? = some gr' ∧ _
  rw [modify_get]
  by_cases hdd : d = d'
  ·subst hdd
   rw [hg] at e
   injection e with e
   subst e
   exact ⟨_, by rw [if_pos rfl, hg]; rfl, hle0, fun _ => rfl⟩
  ·exact ⟨q, by rw [if_neg hdd]; exact e, .refl q, fun _ => rfl⟩, fun _ _ _ e => e⟩
 have hstep := h.onRec (G' := G') (w' := w) hr hg (fun r => { r with toks := r.toks ++ [some n] }) (fun q => { q with tk := q.tk ++ [T] }) (· = .tok d r.toks.length) rfl rfl (fun _ _ _ e => e) hle0 rfl hk
  (fun o ho => .inr ⟨_, ho⟩) ?_ h.imm (Below.refl _ _) (fun b o e => ?_)
 ·exact ⟨G', rfl, rfl, hstep.1, hstep.2⟩
 ·refine hrr.tokens (toks' := r.toks ++ [some n]) (tk' := gr.tk ++ [T]) hgle hk (by simp [hrr.tlen]) (List.mem_append_left _) (fun g m U e1 e2 => ?_)
  rcases get_push e1 with ⟨hlt, e1⟩ | ⟨rfl, rfl⟩
  ·refine .inl ⟨by omega, e1, ?_⟩
   rcases get_push e2 with ⟨_, e2⟩ | ⟨hb, _⟩
   ·exact e2
   ·rw [hrr.tlen] at hb; omega
  ·have : U = T := by
    rcases get_push e2 with ⟨hb, _⟩ | ⟨_, e⟩
    ·rw [hrr.tlen] at hb; omega
    ·exact e
   subst this
   refine .inr ⟨rfl, hTn, fun m hm => ?_⟩
   injection hm with hm
   subst hm
   exact ⟨t1, by simp [G'], t3, t4, t5, arr, ty, t6, t7⟩
 ·simp only [G'] at e
  split at e
  ·rename_i hb; subst hb; exact (Array.getElem?_eq_some_iff.1 t6).1
  ·exact h.ownlt b o e
theorem fit_sound (h : At P B0 w0 G k nl s w) {d nd : Nat} {x x' : AV} {v : Value} {s' : Sig} (hdk : d < k) (hx : Rel G k nl x v) (hc : x.isCell = true) (hf : s.fit d x = some (x', s')) :
  ∃ G', At P B0 w0 G' k nl s' w ∧ GLe (k + 1) s.loops.length G G' ∧ s'.loops = s.loops ∧ Rel G' d nd x' v ∧ x'.isCell = true := by
 have hself := GLe.refl (k + 1) s.loops.length G
 by_cases h1 : ∃ d' g es xs, x = .slice (.tok d' g) es xs
 ·obtain ⟨d', g, es, xs, rfl⟩ := h1
  simp only [Sig.fit] at hf
  split at hf
  ·rename_i hle
   injection hf with hf
   injection hf with e1 e2
   subst e1 e2
   refine ⟨G, h, hself, rfl, ?_, rfl⟩
   cases hx with
   | cl hx => exact .cl hx
   | tok T gr hd hg ht hes hc hn => exact .tok T gr hle hg ht hes hc hn
  ·rename_i hle
   split at hf
   ·rename_i hcur
    obtain ⟨hcd, hct⟩ := hcur
    injection hf with hf
    injection hf with e1 e2
    subst e1 e2
    rw [h.cur_eq] at hcd
    subst hcd
    cases hx with
    | cl hx => cases hx with
     | slice f ho => rcases ho with h | ⟨h, _⟩ <;> cases h
     | empty ho => rcases ho with h | h <;> cases h
    | tok T gr hd hg ht hes hxc hn =>
    obtain ⟨r, hr, hrt⟩ := tok_eq hct
    have hrr := h.rel.rec_ _ r gr hr hg
    obtain ⟨hTn, hT2⟩ := hrr.tok g _ T hrt ht
    obtain ⟨t1, t2, t3, t4, t5, arr, ty, t6, t7⟩ := hT2 _ rfl
    obtain ⟨_, heq⟩ := hn _ hTn
    obtain ⟨rfl, rfl⟩ := heq rfl
    obtain ⟨G1, a1, a2, a3, _, a5, a6⟩ := dropTok h.rel hr hg hrt ht
    obtain ⟨rd, grd, hrd, hgd⟩ := h.rec_ (Nat.le_of_lt hdk)
    have hne : d' ≠ d := by omega
    have hrd1 : (s.setTok d' g none).acts[d]? = some rd := by
     simp only [Sig.setTok, Sig.onRec, modify_get]
     rw [if_neg hne]; exact hrd
    have hgd1 : G1.acts[d]? = some grd := by
     rw [a1, modify_get, if_neg hne]; exact hgd
    obtain ⟨G2, b1, b2, b3, b4⟩ := addTok_free a5 (T := T) hrd1 hgd1 a3 hTn ⟨t1, by rw [a2]; exact t3, t4, t5, arr, ty, t6, t7⟩
    have hle12 : GLe (d' + 1) s.loops.length G G2 := (a6 _ _).trans (b4 _ _)
    refine ⟨G2, h.to b3 (hle12.less (by omega) h.nle) (by simp [Sig.addTok, Sig.setTok, Sig.onRec]), hle12, rfl, ?_, rfl⟩
    have hga : G2.acts[d]? = some { grd with tk := grd.tk ++ [T] } := by rw [b1, modify_get, if_pos rfl, hgd1]; rfl
    have hnt : s.ntok d = grd.tk.length := by rw [ntok_eq hrd, (h.rel.rec_ d rd grd hrd hgd).tlen]
    rw [hnt]
    refine .tok T _ (Nat.le_refl _) hga (by show (grd.tk ++ [T])[grd.tk.length]? = _; rw [List.getElem?_append_right (Nat.le_refl _)]; simp) hes (hxc.mono hle12.I) hn
   ·injection hf with hf
    injection hf with e1 e2
    subst e1 e2
    exact ⟨G, h, hself, rfl, .cl (hx.close (z := .slice .any es xs) rfl), rfl⟩
 ·by_cases h2 : ∃ d' b off, x = .ptr d' b off
  ·obtain ⟨d', b, off, rfl⟩ := h2
   simp only [Sig.fit] at hf
   split at hf
   ·rename_i hle
    injection hf with hf
    injection hf with e1 e2
    subst e1 e2
    obtain ⟨blk, gr, rfl, _, hg, hb⟩ := hx.inv_ptr
    exact ⟨G, h, hself, rfl, .ptr gr hle hg hb, rfl⟩
   ·cases hf
  ·by_cases h3 : ∃ d' b off es n cap, x = .rsl d' b off es n cap
   ·obtain ⟨d', b, off, es, n, cap, rfl⟩ := h3
    simp only [Sig.fit] at hf
    split at hf
    ·rename_i hle
     injection hf with hf
     injection hf with e1 e2
     subst e1 e2
     obtain ⟨blk, gr, rc, o0, rfl, _, hg, hb, hn, hc, hw, ho⟩ := hx.inv_rsl
     exact ⟨G, h, hself, rfl, .rsl gr hle hg hb hn hc hw ho, rfl⟩
    ·cases hf
   ·have he : s.fit d x = x.close.map (·, s) := by
     unfold Sig.fit
     split
     ·exact absurd ⟨_, _, _, _, rfl⟩ h1
     ·exact absurd ⟨_, _, _, rfl⟩ h2
     ·exact absurd ⟨_, _, _, _, _, _, rfl⟩ h3
     ·rfl
    rw [he] at hf
    cases hcl : x.close with
    | none => rw [hcl] at hf; cases hf
    | some z =>
     rw [hcl] at hf
     injection hf with hf
     injection hf with e1 e2
     subst e1 e2
     exact ⟨G, h, hself, rfl, .cl (hx.close hcl), close_isCell hcl hc⟩
theorem fitAll_sound {d nd : Nat} (hdk : d < k) : ∀ {xs ys : List AV} {vs : List Value} {G : Ghost} {s s' : Sig}, At P B0 w0 G k nl s w → (hl : vs.length = xs.length) → (∀ i (hi : i < xs.length) (hj : i < vs.length), Rel G k nl xs[i] vs[i] ∧ xs[i].isCell = true) →
  (hnd : ∀ gr, G.acts[d]? = some gr → gr.nl = nd) → s.fitAll d xs = some (ys, s') →
  ∃ G', At P B0 w0 G' k nl s' w ∧ GLe (k + 1) s.loops.length G G' ∧ s'.loops = s.loops ∧ ys.length = xs.length ∧ ∀ i (hi : i < ys.length) (hj : i < vs.length), Rel G' d nd ys[i] vs[i] ∧ ys[i].isCell = true
 | [], ys, vs, G, s, s', h, hl, _, _, hf => by
  simp only [Sig.fitAll] at hf
  injection hf with hf
  injection hf with e1 e2
  subst e1 e2
  exact ⟨G, h, GLe.refl _ _ _, rfl, rfl, fun i hi => absurd hi (Nat.not_lt_zero _)⟩
 | x :: xs, ys, [], G, s, s', h, hl, _, _, hf => by simp at hl
 | x :: xs, ys, v :: vs, G, s, s', h, hl, hR, hnd, hf => by
  simp only [Sig.fitAll] at hf
  split at hf
  ·cases hf
  ·rename_i y s1 hy
   split at hf
   ·cases hf
   ·rename_i zs s2 hz
    injection hf with hf
    injection hf with e1 e2
    subst e1 e2
    have h0 := hR 0 (by simp) (by simp)
    obtain ⟨G1, a1, a2, a3, a4, a5⟩ := fit_sound (nd := nd) h hdk h0.1 h0.2 hy
    have hlvl : nd ≤ s.loops.length := by
     obtain ⟨_, gr, _, hg⟩ := h.rec_ (Nat.le_of_lt hdk)
     rw [← hnd gr hg]
     exact h.rel.nls _ _ hg
    obtain ⟨G2, b1, b2, b3, b4, b5⟩ := fitAll_sound hdk (nd := nd) a1 (by simpa using hl) (fun i hi hj => by
     have := hR (i + 1) (by simpa using hi) (by simpa using hj)
     exact ⟨this.1.mono (a2.less (by omega) h.nle) (Nat.le_refl _) (Nat.le_refl _), this.2⟩) (fun gr hg => by
     obtain ⟨_, gr0, _, hg0⟩ := h.rec_ (Nat.le_of_lt hdk)
     obtain ⟨gr', hg', hle, _⟩ := a2.acts d gr0 (by omega) hg0
     rw [hg] at hg'
     injection hg' with hg'
     subst hg'
     exact hle.nl.trans (hnd _ hg0)) hz
    rw [a3] at b2
    refine ⟨G2, b1, a2.trans b2, b3.trans a3, by simp [b4], fun i hi hj => ?_⟩
    cases i with
    | zero => exact ⟨a4.mono (b2.less (by omega) hlvl) (Nat.le_refl _) (Nat.le_refl _), a5⟩
    | succ i => exact b5 i (by simpa using hi) (by simpa using hj)
theorem store_core (h : At P B0 w0 G k nl s w) {x y : AV} {px v : Value} {n : Nat} {s' : Sig} (hx : Rel G k nl x px) (hy : Rel G k nl y v) (hs : s.store n x y = some s') :
  ∃ blk off arr ty, px = .pointer (some ⟨blk, off, none⟩) ∧ w.heap[blk]? = some (.cells arr ty) ∧ v.cells.size = n ∧ off + n ≤ arr.size ∧ (∀ u, u ∈ v.cells.toList → u.oneCell' = true) ∧ StepTo P B0 w0 G k nl s s' (w.setCells blk off v.cells.toList) AV.undef Go.undef := by
 unfold Sig.store at hs
 split at hs
 case h_2 => cases hs
 rename_i d b off
 split at hs
 case isFalse => cases hs
 rename_i hcond
 obtain ⟨hro, hlen, hall⟩ := hcond
 obtain ⟨blk, gr, rfl, hd, hg, hbl⟩ := hx.inv_ptr
 obtain ⟨hsz, hcells⟩ := hy.cells hall
 have hvsz : v.cells.size = n := hsz.trans hlen
 have hcell : ∀ c, c ∈ y.cells → c.isCell = true := fun c hc => List.all_eq_true.1 hall c hc
 have hone : ∀ u, u ∈ v.cells.toList → u.oneCell' = true := fun u hu => by
  obtain ⟨i, hi, rfl⟩ := List.getElem_of_mem hu
  have hi' : i < y.cells.length := by rw [← hsz]; simpa using hi
  have := hcells i hi'
  have he : v.cells.getD i Go.undef = v.cells.toList[i] := by
   have : i < v.cells.size := by simpa using hi
   simp [Array.getD, this]
  rw [he] at this
  exact oneCell_of_rel this (hcell _ (List.getElem_mem hi'))
 split at hs
 ·cases hs
 rename_i cs m1 hfit
 split at hs
 ·cases hs
 rename_i row hrow
 split at hs
 case isFalse => cases hs
 rename_i hle
 injection hs with hs
 subst hs
 obtain ⟨_, hnd0⟩ : ∃ nd, gr.nl = nd := ⟨_, rfl⟩
 have hkey : ∃ G1 gr1, At P B0 w0 G1 k nl m1 w ∧ GLe (k + 1) s.loops.length G G1 ∧ m1.loops = s.loops ∧ cs.length = n ∧ G1.acts[d]? = some gr1 ∧ gr1.bl[b]? = some (some blk) ∧ (∀ i (hi : i < cs.length) (hj : i < v.cells.toList.length), Rel G1 d gr1.nl cs[i] v.cells.toList[i]) ∧ ∀ c, c ∈ cs → c.isCell = true := by
  have hpt : ∀ i (hi : i < y.cells.length) (hj : i < v.cells.toList.length), Rel G k nl y.cells[i] v.cells.toList[i] ∧ y.cells[i].isCell = true := fun i hi hj => by
   have := hcells i hi
   have he : v.cells.getD i Go.undef = v.cells.toList[i] := by
    have : i < v.cells.size := by simpa using hj
    simp [Array.getD, this]
   rw [he] at this
   exact ⟨this, hcell _ (List.getElem_mem hi)⟩
  by_cases hdc : d = s.cur
  ·rw [if_pos hdc] at hfit
   injection hfit with hfit
   injection hfit with e1 e2
   subst e1 e2
   have hdk : d = k := by rw [h.cur_eq] at hdc; exact hdc
   subst hdk
   obtain ⟨gc, hgc, hgn⟩ := h.cur
   rw [hg] at hgc
   injection hgc with hgc
   subst hgc
   exact ⟨G, gr, h, GLe.refl _ _ _, rfl, hlen, hg, hbl, fun i hi hj => by rw [hgn]; exact (hpt i hi hj).1, hcell⟩
  ·rw [if_neg hdc] at hfit
   have hdk : d < k := by rw [h.cur_eq] at hdc; omega
   obtain ⟨G1, a1, a2, a3, a4, a5⟩ := fitAll_sound (nd := gr.nl) (vs := v.cells.toList) hdk h (by simpa using hsz) hpt (fun g e => by rw [hg] at e; injection e with e; rw [e]) hfit
   obtain ⟨gr1, hg1, hle1, _⟩ := a2.acts d gr (by omega) hg
   refine ⟨G1, gr1, a1, a2, a3, a4.trans hlen, hg1, hle1.bl _ _ hbl, fun i hi hj => ?_, fun c hc => ?_⟩
   ·rw [hle1.nl]
    exact (a5 i hi hj).1
   ·obtain ⟨i, hi, rfl⟩ := List.getElem_of_mem hc
    exact (a5 i hi (by simp [hvsz, ← hlen, ← a4, hi])).2
 obtain ⟨G1, gr1, hat1, hle1, hl1, hcl, hg1, hbl1, hRs, hcs⟩ := hkey
 obtain ⟨r, hr, hbx, hbrel, arr, ty, hheap, _, hrowcell⟩ := hat1.box hd hrow hg1 hbl1
 obtain ⟨bb1, bb2, bb3, arr', ty', hheap', harr, hgsz, hold⟩ := hbrel
 rw [hheap] at hheap'
 injection hheap' with hheap'
 injection hheap' with e1 e2
 subst e1 e2
 refine ⟨blk, off, arr, ty, rfl, hheap, hvsz, Nat.le_trans hle harr, hone, ?_⟩
 have hRow : RowLe (Rel G1 d gr1.nl) row arr := ⟨harr, fun i hi => (hold i hi).2⟩
 have hRow' : RowLe (Rel G1 d gr1.nl) (setCells row off cs) (setA arr off v.cells.toList) := RowLe.setA (by simp [hvsz, hcl]) hRs off hRow
 by_cases hrow0 : row = []
 · -- nothing is written to a dead box
  subst hrow0
  have hn0 : n = 0 := by simp at hle; omega
  have hcs0 : cs = [] := List.eq_nil_of_length_eq_zero (by rw [hcl]; exact hn0)
  have hv0 : v.cells.toList = [] := List.eq_nil_of_length_eq_zero (by rw [Array.length_toList, hvsz]; exact hn0)
  subst hcs0
  rw [hv0]
  have hsame : m1.setBox d b (setCells [] off []) = m1 := by
   simp only [Sig.setBox, Sig.onRec, setCells]
   have : m1.acts.modify d (fun r => { r with boxes := r.boxes.set b [] }) = m1.acts := by
    apply List.ext_getElem?
    intro i
    rw [List.getElem?_modify]
    by_cases hi : d = i
    ·subst hi
     rw [hr]
     have : r.boxes.set b [] = r.boxes := by
      apply List.ext_getElem?
      intro j
      rw [List.getElem?_set]
      split
      ·rename_i hj
       subst hj
       rw [hbx, if_pos (List.getElem?_eq_some_iff.1 hbx).1]
      ·rfl
     show some (if d = d then (⟨r.boxes.set b [], r.toks⟩ : Rec) else r) = some r
     rw [if_pos rfl, this]
    ·simp [hi]
   rw [this]
  rw [hsame]
  exact ⟨G1, hat1, hle1, by rw [hl1], .undef⟩
 have hne : setCells row off cs ≠ [] := by
  intro e
  have e2 := congrArg List.length e
  simp [setCells_length] at e2
  exact hrow0 e2
 have hsr := hat1.rel.setBox (cs' := setCells row off cs) (w' := w.setCells blk off v.cells.toList) hr hg1 hbx hbl1 hrow0 hne (fun c hc => by
   rcases setCells_mem hc with h | h
   ·exact hrowcell c h
   ·exact hcs c h) hRow' (fun m hm => by rw [setA_size]; exact hgsz hrow0 m hm) (heap_setCells _ _ _ _ hheap) (fun c hc => heap_setCells_other hc _ _ _) (below_setCells bb1 _ _ _) (size_setCells _ _ _ _)
 refine ⟨G1, hat1.to hsr (GLe.refl _ _ _) (by simp [Sig.setBox, Sig.onRec]), hle1, by simp [Sig.setBox, Sig.onRec, hl1], .undef⟩
theorem store_sound (h : At P B0 w0 G k nl s w) {x y : AV} {px v : Value} {n : Nat} {t : TypeId} {s' : Sig} (hx : Rel G k nl x px) (hy : Rel G k nl y v) (hn : sizeP P t = some n) (hs : s.store n x y = some s') :
  ∃ w', (Instr.storeAt t px v).run P w = .ok () w' ∧ StepTo P B0 w0 G k nl s s' w' AV.undef Go.undef := by
 obtain ⟨blk, off, arr, ty, rfl, h1, h2, h3, h4, h5⟩ := store_core h hx hy hs
 exact ⟨_, store_run h1 hn h2 h3 h4, h5⟩
end
end Go.Ax

/-
  copy of plain cells, and a slice that is not written to any more.
-/
namespace Go.Ax
open Go.RowKit
section
variable {P : Program} {B0 : Nat} {w0 : World} {G : Ghost} {k nl : Nat} {w : World} {s : Sig}
theorem flat_one {α : Type} {xs : List (List α)} (h : ∀ r, r ∈ xs → r.length = 1) : xs.flatten.length = xs.length := by
 have := (flatten_get (es := 1) (by omega) h).1
 omega
theorem src_rel (h : At P B0 w0 G k nl s w) {b : AV} {y : Value} {ys : List AV} (hy : Rel G k nl b y) (hs : s.srcCells b = some ys) :
  ∃ (ad : Option Addr) (cap : Nat) (f : Nat → Value), y = .slice ad ys.length cap ∧ (0 < ys.length → ∃ a, ad = some a ∧ ∀ j, j < ys.length → w.cell? (a.add j) = some (f j)) ∧
   ∀ i (hi : i < ys.length), Rel G k nl ys[i] (f i) ∧ ys[i].isCell = true := by
 cases b with
 | slice o e xs =>
  simp only [Sig.srcCells] at hs
  split at hs
  case isFalse => cases hs
  rename_i hc
  injection hs with hs
  subst hs
  by_cases hxe : xs = []
  ·subst hxe
   rcases hy.inv_slice with ⟨_, _, rfl⟩ | ⟨_, aa, c, rfl, _⟩
   ·exact ⟨none, 0, fun _ => Go.undef, rfl, fun h => absurd h (Nat.lt_irrefl _), fun i hi => absurd hi (Nat.not_lt_zero _)⟩
   ·exact ⟨some aa, c, fun _ => Go.undef, rfl, fun h => absurd h (Nat.lt_irrefl _), fun i hi => absurd hi (Nat.not_lt_zero _)⟩
  ·have he : e = 1 := by
    rcases hc with hc | hc
    ·exact hc
    ·exact absurd (by simpa using hc) hxe
   subst he
   have hx0 : 0 < xs.length := List.length_pos_iff.2 hxe
   rcases hy.inv_slice with ⟨_, hn, _⟩ | ⟨_, ay, cy, rfl, _, _, hyc, _⟩
   ·exact absurd hn hxe
   ·obtain ⟨hys', hcy, ly, ccy, fy, hyI, hyR⟩ := SliceC.flat hyc (by omega)
    have hay : ay = ⟨ay.block, ay.off, none⟩ := addr_eta (hys' (by omega))
    obtain ⟨fl1, fl2⟩ := flatten_get (es := 1) (by omega) ly
    have hl := flat_one ly
    refine ⟨some ay, cy, fy, by rw [hl], fun _ => ⟨ay, rfl, fun j hj => ?_⟩, fun i hi => ⟨?_, ?_⟩⟩
    ·rw [hay, addr_add]; exact h.rel.imm _ _ _ (hyI j (by omega))
    ·obtain ⟨g1, g2, g3⟩ := fl2 i hi
     rw [g3]
     have := hyR _ g1 _ g2
     rw [Nat.div_add_mod'] at this
     exact .cl this
    ·obtain ⟨r, hr, hcr⟩ := List.mem_flatten.1 (List.getElem_mem hi)
     exact ccy r hr _ hcr
 | rsl d b off e n cap =>
  simp only [Sig.srcCells] at hs
  split at hs
  case isFalse => cases hs
  rename_i he
  subst he
  obtain ⟨cs, hbox, hs⟩ := Option.bind_eq_some_iff.1 hs
  split at hs
  case isFalse => cases hs
  rename_i hle
  injection hs with hs
  subst hs
  obtain ⟨blk, gr, rc, o0, rfl, hd, hg, hbl, hnr, _, hw, ho⟩ := hy.inv_rsl
  obtain ⟨r, hr, hbx, hbrel, arr, tb, hheap, hrow, hrcell⟩ := h.box hd hbox hg hbl
  have hl : ((cs.drop off).take n).length = n := by simp; omega
  refine ⟨_, rc, fun j => arr.getD (off + j) Go.undef, by rw [hl], fun h0 => ⟨_, rfl, fun j hj => ?_⟩, fun i hi => ?_⟩
  ·have := ho (.inl (by omega))
   subst this
   rw [addr_add, cell_of_heap hheap]
   have : o0 + j < arr.size := by have := hrow.1; omega
   simp [Array.getD, this]
  ·have he : ((cs.drop off).take n)[i] = cs[off + i]'(by omega) := by simp
   rw [he]
   exact ⟨hrow.2 _ _, hrcell _ (List.getElem_mem _)⟩
 | _ => cases hs
theorem copy_sound (h : At P B0 w0 G k nl s w) {t u e ty : TypeId} (ht : P.underlying t = some (.slice e)) (hz : sizeP P e = some 1) {a b v : AV} {x y : Value} {s' : Sig}
  (hx : Rel G k nl a x) (hy : Rel G k nl b y) (hc : copyOp s a b = some (v, s')) :
  ∃ x' w', (Builtin.copy_ #[t, u] ty #[x, y]).run P w = .ok x' w' ∧ StepTo P B0 w0 G k nl s s' w' v x' := by
 unfold copyOp at hc
 split at hc
 ·rename_i o e1
  obtain ⟨ys, h1, hc⟩ := Option.map_eq_some_iff.1 hc
  injection hc with e1 e2
  subst e1 e2
  obtain ⟨ad, cap, f, rfl, _, _⟩ := src_rel h hy h1
  obtain ⟨dd, c, rfl⟩ : ∃ dd c, x = .slice dd 0 c := by
   rcases hx.inv_slice with ⟨_, _, rfl⟩ | ⟨_, aa, c, rfl, _⟩
   ·exact ⟨_, _, rfl⟩
   ·exact ⟨_, _, rfl⟩
  exact ⟨_, w, run_copy_none w t u ty e dd ad 0 c ys.length cap ht hz (by simp), G, h, GLe.refl _ _ _, rfl, .cl (.v rfl)⟩
 ·rename_i d b off e1 n cap
  split at hc
  case isFalse => cases hc
  rename_i he
  subst he
  obtain ⟨ys, h1, hc⟩ := Option.bind_eq_some_iff.1 hc
  obtain ⟨ad, capy, f, rfl, hcell, hys⟩ := src_rel h hy h1
  have hx' := hx
  obtain ⟨blk, gr, rc, o0, rfl, hd, hg, hbl, hnr, _, hw, ho⟩ := hx.inv_rsl
  split at hc
  ·rename_i hem
   injection hc with hc
   injection hc with e1 e2
   subst e1 e2
   have hmin : Nat.min ys.length n = 0 := by
    have : (ys.take n).length = 0 := by rw [List.isEmpty_iff.1 hem]; rfl
    rw [List.length_take] at this
    show min ys.length n = 0
    omega
   exact ⟨_, w, run_copy_none w t u ty e _ ad n rc ys.length capy ht hz hmin, G, h, GLe.refl _ _ _, rfl, .cl (.v rfl)⟩
  ·rename_i hem
   obtain ⟨q, hst, hc⟩ := Option.map_eq_some_iff.1 hc
   injection hc with e1 e2
   subst e1 e2
   have hpos : 0 < (ys.take n).length := by
    apply List.length_pos_iff.2
    intro e
    rw [e] at hem
    exact hem rfl
   have hlt : (ys.take n).length = min n ys.length := List.length_take
   have hn0 : 0 < n := by omega
   have := ho (.inl hn0)
   subst this
   have hpx : Rel G k nl (.ptr d b o0) (.pointer (some ⟨blk, o0, none⟩)) := .ptr gr hd hg hbl
   have hyv : Rel G k nl (.agg (ys.take n)) (.agg ((List.range (ys.take n).length).map f).toArray) := by
    refine .agg (by simp) (fun c hc => ?_) (fun i hi => ?_)
    ·obtain ⟨i, hi, rfl⟩ := List.getElem_of_mem hc
     have hi' : i < ys.length := by rw [hlt] at hi; omega
     rw [List.getElem_take]
     exact (hys i hi').2
    ·have hi' : i < ys.length := by rw [hlt] at hi; omega
     have : ((List.range (ys.take n).length).map f).toArray.getD i Go.undef = f i := by simp [Array.getD] at hi ⊢; omega
     rw [this, List.getElem_take]
     exact (hys i hi').1
   obtain ⟨blk', off', arr, tb, e1, h2, h3, h4, h5, h6⟩ := store_core h hpx hyv hst
   injection e1 with e1
   injection e1 with e1
   injection e1 with e1 e2
   subst e1 e2
   obtain ⟨ay, rfl, hcl⟩ := hcell (by omega)
   have hcs : (Value.agg ((List.range (ys.take n).length).map f).toArray).cells.toList = (List.range (ys.take n).length).map f := rfl
   rw [hcs] at h5 h6
   have hlen : ((List.range (ys.take n).length).map f).length = (ys.take n).length := by simp
   have hrun := run_copy_cells (P := P) w t u ty e blk o0 n rc ay ys.length capy ((List.range (ys.take n).length).map f) ht hz (by rw [hlen, hlt]; exact Nat.min_comm _ _) (fun j v hj => by
     have hjl : j < (ys.take n).length := by
      have := (List.getElem?_eq_some_iff.1 hj).1
      rw [hlen] at this; exact this
     have e : ((List.range (ys.take n).length).map f)[j]? = some (f j) := by rw [List.getElem?_map, List.getElem?_range hjl]; rfl
     rw [e] at hj
     injection hj with hj
     subst hj
     exact hcl j (by omega)) (fun j hj => by
     rw [hlen] at hj
     rw [cell_of_heap h2]
     have : o0 + j < arr.size := by omega
     simp [this]) (fun j _ => frozen_of_heap h2) h5
   refine ⟨_, _, hrun, ?_⟩
   obtain ⟨G', a1, a2, a3, _⟩ := h6
   rw [hlen]
   exact ⟨G', a1, a2, a3, .cl (.v rfl)⟩
 ·cases hc
end
end Go.Ax
