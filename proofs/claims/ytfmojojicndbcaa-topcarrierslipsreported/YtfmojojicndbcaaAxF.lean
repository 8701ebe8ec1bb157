/-
  Memory: an activation's record is changed; new boxes; rights to append are made, moved and dropped.
-/
import Derived.Test.YtfmojojicndbcaaAxE
namespace Go.Ax
open Go.RowKit

section
variable {P : Program} {B0 : Nat} {w0 : World} {G G' : Ghost} {k nl : Nat} {w w' : World} {s : Sig}

theorem SRel.onRec (h : SRel P B0 w0 G s w) {d0 : Nat} {r0 : Rec} {gr0 : GRec} (hr : s.acts[d0]? = some r0) (hg : G.acts[d0]? = some gr0) (f : Rec → Rec) (gf : GRec → GRec) (X : Owner → Prop)
    (hG : G'.acts = G.acts.modify d0 gf) (hL : G'.loops = G.loops) (hI : ∀ b i v, G.I b i = some v → G'.I b i = some v) (hle0 : RecLe gr0 (gf gr0)) (hm0 : (gf gr0).marks = gr0.marks)
    (hk : KeepsOwn X G w G' w') (hX : ∀ o, X o → (∃ b, o = .box d0 b) ∨ ∃ g, o = .tok d0 g) (hrec0 : RecRel B0 G' d0 (f r0) (gf gr0) w')
    (him : ∀ b i v, G'.I b i = some v → w'.cell? ⟨b, i, none⟩ = some v) (hb : Below B0 w w') (hol : ∀ b o, G'.own b = some o → b < w'.heap.size) :
    SRel P B0 w0 G' (s.onRec d0 f) w' ∧ ∀ k nl, GLe k nl G G' := by
  have hle : ∀ k nl, GLe k nl G G' := fun k nl => ⟨hI, fun d gr _ e => by
    rw [hG, modify_get]
    by_cases hd : d0 = d
    · subst hd
      rw [hg] at e
      injection e with e
      subst e
      exact ⟨_, by rw [if_pos rfl, hg]; rfl, hle0, fun _ => hm0⟩
    · exact ⟨gr, by rw [if_neg hd]; exact e, .refl gr, fun _ => rfl⟩, fun l r _ e => by rw [hL]; exact e⟩
  have hback : ∀ (d : Nat) (gr' : GRec), G'.acts[d]? = some gr' → ∃ gr : GRec, G.acts[d]? = some gr ∧ gr'.nl = gr.nl := fun d gr' e => by
    rw [hG, modify_get] at e
    by_cases hd : d0 = d
    · subst hd
      rw [if_pos rfl, hg] at e
      simp only [Option.map_some, Option.some.injEq] at e
      subst e
      exact ⟨gr0, hg, hle0.nl⟩
    · rw [if_neg hd] at e
      exact ⟨gr', e, rfl⟩
  refine ⟨⟨him, by simp only [hG, Sig.onRec, List.length_modify]; exact h.len, by rw [hL]; exact h.llen, fun d r gr h1 h2 => ?_, fun l lp r h1 h2 => ?_, fun d gr e => ?_, fun d d' gr gr' hd e e' => ?_, h.below.trans hb, Nat.le_trans h.low hb.size, hol⟩, hle⟩
  · simp only [Sig.onRec, modify_get] at h1
    rw [hG, modify_get] at h2
    by_cases hd : d0 = d
    · subst hd
      rw [if_pos rfl, hr] at h1
      rw [if_pos rfl, hg] at h2
      simp only [Option.map_some, Option.some.injEq] at h1 h2
      subst h1 h2
      exact hrec0
    · rw [if_neg hd] at h1 h2
      refine (h.rec_ d r gr h1 h2).keep (hle _ _) hk (fun o ho => ?_)
      rcases hX o ho with ⟨b, rfl⟩ | ⟨g, rfl⟩
      · refine ⟨fun b' e => ?_, fun g e => ?_, fun i e => ?_⟩
        · injection e with e; exact hd e
        · cases e
        · cases e
      · refine ⟨fun b' e => ?_, fun g e => ?_, fun i e => ?_⟩
        · cases e
        · injection e with e; exact hd e
        · cases e
  · rw [hL] at h2
    have hr' := h.loop l lp r h1 h2
    obtain ⟨k1, k2, _⟩ := hk _ _ hr'.2.1 (fun hx => by rcases hX _ hx with ⟨b, e⟩ | ⟨g, e⟩ <;> cases e)
    exact hr'.keep (fun k nl _ _ => hle k nl) (by rw [hG, List.length_modify]; exact Nat.le_refl _) k1 k2
  · obtain ⟨gr0', e0, e1⟩ := hback d gr e
    rw [e1]
    exact h.nls d gr0' e0
  · obtain ⟨a, e0, e1⟩ := hback d gr e
    obtain ⟨b, e2, e3⟩ := hback d' gr' e'
    rw [e1, e3]
    exact h.nlm d d' a b hd e0 e2

/-- What is behind a step of the present activation. -/
def StepTo (P : Program) (B0 : Nat) (w0 : World) (G : Ghost) (k nl : Nat) (s s' : Sig) (w' : World) (x : AV) (x' : Value) : Prop :=
  ∃ G', At P B0 w0 G' k nl s' w' ∧ GLe (k + 1) s.loops.length G G' ∧ s'.loops.length = s.loops.length ∧ Rel G' k nl x x'

theorem At.to {G' : Ghost} {s' : Sig} (h : At P B0 w0 G k nl s w) (hr : SRel P B0 w0 G' s' w') (hle : GLe k nl G G') (hl : s'.acts.length = s.acts.length) : At P B0 w0 G' k nl s' w' := by
  obtain ⟨gr, h1, h2⟩ := h.cur
  obtain ⟨gr', h3, h4, _⟩ := hle.acts k gr (Nat.le_refl _) h1
  exact ⟨hr, hl.trans h.len, gr', h3, h4.nl.trans h2⟩

theorem At.rec_ (h : At P B0 w0 G k nl s w) {d : Nat} (hd : d ≤ k) : ∃ r gr, s.acts[d]? = some r ∧ G.acts[d]? = some gr := by
  have h1 : d < s.acts.length := by rw [h.len]; omega
  have h2 : d < G.acts.length := by rw [h.rel.len]; exact h1
  exact ⟨_, _, List.getElem?_eq_getElem h1, List.getElem?_eq_getElem h2⟩

/-! ### A new box -/

theorem getD_push {l : List Nat} {b x : Nat} {y : Nat} (h : (l ++ [x])[b]? = some y) : (l[b]? = some y) ∨ (b = l.length ∧ y = x) := by
  rcases Nat.lt_or_ge b l.length with hb | hb
  · rw [List.getElem?_append_left hb] at h; exact .inl h
  · rw [List.getElem?_append_right hb] at h
    have : b - l.length = 0 := by
      have := (List.getElem?_eq_some_iff.1 h).1
      simp at this; omega
    rw [this] at h
    simp at h
    exact .inr ⟨by omega, h.symm⟩

theorem get_push {α : Type} {l : List α} {b : Nat} {x y : α} (h : (l ++ [x])[b]? = some y) : (b < l.length ∧ l[b]? = some y) ∨ (b = l.length ∧ y = x) := by
  rcases Nat.lt_or_ge b l.length with hb | hb
  · rw [List.getElem?_append_left hb] at h; exact .inl ⟨hb, h⟩
  · rw [List.getElem?_append_right hb] at h
    have : b - l.length = 0 := by
      have := (List.getElem?_eq_some_iff.1 h).1
      simp at this; omega
    rw [this] at h
    simp at h
    exact .inr ⟨by omega, h.symm⟩

theorem get_old {α : Type} {l : List α} {b : Nat} {x y : α} (h : l[b]? = some y) : (l ++ [x])[b]? = some y := by
  rw [List.getElem?_append_left (List.getElem?_eq_some_iff.1 h).1]; exact h

theorem newBox_sound (h : At P B0 w0 G k nl s w) {cs : List AV} {arr : Array Value} (ty : TypeId) (hcell : ∀ c, c ∈ cs → c.isCell = true) (hR : Row2 (Rel G k nl) cs arr) :
    StepTo P B0 w0 G k nl s (s.newBox cs).2 (w.alloc (.cells arr ty)) (s.newBox cs).1 (.pointer (some ⟨w.heap.size, 0, none⟩)) ∧
    StepTo P B0 w0 G k nl s (s.newBox cs).2 (w.alloc (.cells arr ty)) (.rsl s.cur (s.nbox s.cur) 0 0 0 0) (.slice (some ⟨w.heap.size, 0, none⟩) 0 0) ∧
    ∀ es n cap, n ≤ cap → StepTo P B0 w0 G k nl s (s.newBox cs).2 (w.alloc (.cells arr ty)) (.rsl s.cur (s.nbox s.cur) 0 es n cap) (.slice (some ⟨w.heap.size, 0, none⟩) n cap) := by
  obtain ⟨r, gr, hr, hg⟩ := h.rec_ (Nat.le_refl k)
  have hnl : gr.nl = nl := by obtain ⟨g', e1, e2⟩ := h.cur; rw [hg] at e1; injection e1 with e1; rw [e1]; exact e2
  have hrr := h.rel.rec_ k r gr hr hg
  let G' : Ghost := { G with acts := G.acts.modify k fun q => { q with bl := q.bl ++ [w.heap.size] }, own := fun b => if b = w.heap.size then some (.box k r.boxes.length) else G.own b }
  have hk : KeepsOwn (fun _ => False) G w G' (w.alloc (.cells arr ty)) := fun b o e _ => by
    have hlt := h.rel.ownlt b o e
    exact ⟨by simp only [G']; rw [if_neg (by omega)]; exact e, Below.heap_alloc _ _ _ hlt, fun _ e => e⟩
  have hle0 : RecLe gr { gr with bl := gr.bl ++ [w.heap.size] } := ⟨fun b blk e => get_old e, fun g T e => ⟨T, e, .refl T⟩, rfl⟩
  have hnew : (w.alloc (.cells arr ty)).heap[w.heap.size]? = some (.cells arr ty) := World.alloc_heap_new w _
  have hle : GLe k nl G G' := ⟨fun _ _ _ e => e, fun d q _ e => by
    simp only [G', modify_get]
    by_cases hd : k = d
    · subst hd
      rw [hg] at e
      injection e with e
      subst e
      exact ⟨_, by rw [if_pos rfl, hg]; rfl, hle0, fun _ => rfl⟩
    · exact ⟨q, by rw [if_neg hd]; exact e, .refl q, fun _ => rfl⟩, fun _ _ _ e => e⟩
  have hstep := h.rel.onRec (G' := G') (w' := w.alloc (.cells arr ty)) hr hg (fun r => { r with boxes := r.boxes ++ [cs] }) (fun q => { q with bl := q.bl ++ [w.heap.size] }) (fun _ => False) rfl rfl (fun _ _ _ e => e) hle0 rfl hk
    (fun o ho => ho.elim) ?_ (fun b i v e => ?_) ((Below.refl _ _).alloc h.rel.low _) (fun b o e => ?_)
  · obtain ⟨hs, hle'⟩ := hstep
    have hs' : SRel P B0 w0 G' (s.newBox cs).2 (w.alloc (.cells arr ty)) := by
      simp only [Sig.newBox, h.cur_eq, Sig.addBox]
      exact hs
    have hlen : (s.newBox cs).2.acts.length = s.acts.length := by simp [Sig.newBox, Sig.addBox, Sig.onRec]
    have hat := h.to hs' hle hlen
    have hnb : s.nbox s.cur = r.boxes.length := by simp [Sig.nbox, h.cur_eq, hr]
    have hga : G'.acts[k]? = some { gr with bl := gr.bl ++ [w.heap.size] } := by
      show (G.acts.modify k _)[k]? = _
      rw [modify_get, if_pos rfl, hg]; rfl
    have hgb : ({ gr with bl := gr.bl ++ [w.heap.size] } : GRec).bl[r.boxes.length]? = some w.heap.size := by
      show (gr.bl ++ [w.heap.size])[r.boxes.length]? = _
      rw [← hrr.blen, List.getElem?_append_right (Nat.le_refl _)]
      simp
    have hll : (s.newBox cs).2.loops.length = s.loops.length := by simp [Sig.newBox, Sig.addBox, Sig.onRec]
    refine ⟨⟨G', hat, hle' _ _, hll, ?_⟩, ⟨G', hat, hle' _ _, hll, ?_⟩, fun es n cap hn => ⟨G', hat, hle' _ _, hll, ?_⟩⟩
    · simp only [Sig.newBox, h.cur_eq]
      rw [h.cur_eq] at hnb
      rw [hnb]
      exact .ptr _ (Nat.le_refl _) hga hgb
    · rw [hnb, h.cur_eq]
      exact .rsl _ (Nat.le_refl _) hga hgb (Nat.le_refl _)
    · rw [hnb, h.cur_eq]
      exact .rsl _ (Nat.le_refl _) hga hgb hn
  · refine ⟨by simp [hrr.blen], hrr.tlen, fun b cs' blk e1 e2 => ?_, fun g n T e1 e2 => ?_, fun i b e1 => ?_⟩
    · rcases get_push e1 with ⟨hb, e1⟩ | ⟨hb, rfl⟩
      · have e2' : gr.bl[b]? = some blk := by
          rcases get_push e2 with ⟨_, e2⟩ | ⟨hb', _⟩
          · exact e2
          · rw [hrr.blen] at hb'; omega
        have hbx := hrr.box b cs' blk e1 e2'
        obtain ⟨k1, k2, k3⟩ := hk _ _ hbx.2.1 (fun x => x)
        exact hbx.keep (by rw [hnl]; exact hle) k1 k2 k3
      · have : blk = w.heap.size := by
          rcases get_push e2 with ⟨hb', _⟩ | ⟨_, e⟩
          · rw [hrr.blen] at hb'; omega
          · exact e
        subst this
        subst hb
        refine ⟨h.rel.low, by simp [G'], h.rel.I_new, arr, ty, hnew, hR.1, fun i hi => ⟨hcell _ (List.getElem_mem hi), ?_⟩⟩
        have := (hR.2 i hi).mono hle (Nat.le_refl _) (Nat.le_refl _)
        show Rel G' k gr.nl _ _
        rw [hnl]
        exact this
    · have ht := hrr.tok g n T e1 e2
      have hs : ∀ (hn : n.isSome = true), G'.own T.blk = some (.tok k g) ∧ (w.alloc (.cells arr ty)).heap[T.blk]? = w.heap[T.blk]? ∧ ∀ i, G.I T.blk i = none → G'.I T.blk i = none := fun hn => by
        obtain ⟨m, hm⟩ := Option.isSome_iff_exists.1 hn
        exact hk _ _ (ht.2 m hm).2.1 (fun x => x)
      exact ht.keep (fun hn => (hs hn).1) (fun hn => (hs hn).2.1) (fun hn => (hs hn).2.2)
    · have hm := hrr.mark i b e1
      obtain ⟨k1, k2, _⟩ := hk _ _ hm.2.1 (fun x => x)
      exact hm.keep k1 k2
  · have hlt := h.rel.I_lt e
    rw [World.cell?_alloc_lt _ _ _ (by exact hlt)]
    exact h.rel.imm b i v e
  · simp only [G'] at e
    split at e
    · rename_i hb; subst hb; simp
    · have := h.rel.ownlt b o e; simp; omega

end
end Go.Ax
