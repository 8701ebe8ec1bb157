/-
  Loops over functions: their records.
-/
import Derived.Test.YtfmojojicndbcaaAxT
namespace Go.Ax
open Go.RowKit

section
variable {P : Program} {B0 : Nat} {w0 : World} {G : Ghost} {k nl : Nat} {w : World} {s : Sig}

theorem alloc_imm (h : SRel P B0 w0 G s w) (o : Obj) {b i : Nat} {v : Value} (e : G.I b i = some v) : (w.alloc o).cell? ⟨b, i, none⟩ = some v := by
  have hlt := h.I_lt e
  rw [World.cell?_alloc_lt _ _ _ (by exact hlt)]
  exact h.imm b i v e

/-- The block for the rounds' deferred calls, and its mark. -/
theorem mark_sound (h : At P B0 w0 G k nl s w) : ∃ G', At P B0 w0 G' k nl s (w.alloc (.deferred (some []))) ∧ GLe k s.loops.length G G' ∧ G'.loops = G.loops ∧
    ∃ gr, G.acts[k]? = some gr ∧ G'.acts[k]? = some { gr with marks := gr.marks ++ [w.heap.size] } := by
  obtain ⟨r, gr, hr, hg⟩ := h.rec_ (Nat.le_refl k)
  have hrr := h.rel.rec_ k r gr hr hg
  have hlen : G.acts.length = k + 1 := by rw [h.rel.len, h.len]
  let G' : Ghost := { G with acts := G.acts.modify k fun q => { q with marks := q.marks ++ [w.heap.size] }, own := fun b => if b = w.heap.size then some (.mark k gr.marks.length) else G.own b }
  have hga : G'.acts[k]? = some { gr with marks := gr.marks ++ [w.heap.size] } := by
    show (G.acts.modify k _)[k]? = _
    rw [modify_get, if_pos rfl, hg]; rfl
  have hold : ∀ d, d ≠ k → G'.acts[d]? = G.acts[d]? := fun d hd => by
    show (G.acts.modify k _)[d]? = _
    rw [modify_get, if_neg (Ne.symm hd)]
  have hle : ∀ k' nl', k' ≤ k → GLe k' nl' G G' := fun k' nl' hk' => ⟨fun _ _ _ e => e, fun d q hd e => by
    by_cases hdk : d = k
    · subst hdk
      rw [hg] at e
      injection e with e
      subst e
      exact ⟨_, hga, ⟨fun _ _ e => e, fun _ T e => ⟨T, e, .refl T⟩, rfl⟩, fun hlt => by omega⟩
    · exact ⟨q, by rw [hold d hdk]; exact e, .refl q, fun _ => rfl⟩, fun _ _ _ e => e⟩
  have hko : KeepsOwn (fun _ => False) G w G' (w.alloc (.deferred (some []))) := fun b o e _ => by
    have hlt := h.rel.ownlt b o e
    exact ⟨by simp only [G']; rw [if_neg (by omega)]; exact e, Below.heap_alloc _ _ _ hlt, fun _ e => e⟩
  have hs : SRel P B0 w0 G' s (w.alloc (.deferred (some []))) := by
    refine ⟨fun b i v e => alloc_imm h.rel _ e, by simp [G', h.rel.len], h.rel.llen, fun d q gq h1 h2 => ?_, fun l lp q h1 h2 => ?_, fun d q h1 => ?_, fun d d' q q' hd h1 h2 => ?_, h.rel.below.alloc h.rel.low _, by have := h.rel.low; simp; omega, fun b o e => ?_⟩
    · have hdk : d ≤ k := by have := (List.getElem?_eq_some_iff.1 h1).1; rw [h.len] at this; omega
      by_cases hd : d = k
      · subst hd
        rw [hga] at h2
        injection h2 with h2
        subst h2
        rw [hr] at h1
        injection h1 with h1
        subst h1
        have hkeep := hrr.keep (hle d gr.nl (Nat.le_refl _)) hko (fun o ho => ho.elim)
        refine ⟨hkeep.blen, hkeep.tlen, hkeep.box, hkeep.tok, fun i b e => ?_⟩
        rcases get_push e with ⟨_, e⟩ | ⟨hi, rfl⟩
        · exact hkeep.mark i b e
        · subst hi
          exact ⟨h.rel.low, by simp [G'], World.alloc_heap_new w _⟩
      · rw [hold d hd] at h2
        exact (h.rel.rec_ d q gq h1 h2).keep (hle d _ hdk) hko (fun o ho => ho.elim)
    · have hq := h.rel.loop l lp q h1 h2
      obtain ⟨k1, k2, _⟩ := hko _ _ hq.2.1 (fun x => x)
      exact hq.keep (fun k' nl' a1 _ => hle k' nl' (by omega)) (by simp [G']) k1 k2
    · by_cases hd : d = k
      · subst hd
        rw [hga] at h1
        injection h1 with h1
        subst h1
        exact h.rel.nls d gr hg
      · rw [hold d hd] at h1
        exact h.rel.nls d q h1
    · have get : ∀ (d : Nat) (q : GRec), G'.acts[d]? = some q → ∃ q0, G.acts[d]? = some q0 ∧ q.nl = q0.nl := fun d q e => by
        by_cases hd : d = k
        · subst hd
          rw [hga] at e
          injection e with e
          subst e
          exact ⟨gr, hg, rfl⟩
        · rw [hold d hd] at e
          exact ⟨q, e, rfl⟩
      obtain ⟨q0, a1, a2⟩ := get d q h1
      obtain ⟨q0', a1', a2'⟩ := get d' q' h2
      rw [a2, a2']
      exact h.rel.nlm d d' q0 q0' hd a1 a1'
    · simp only [G'] at e
      split at e
      · rename_i hb; subst hb; simp
      · have := h.rel.ownlt b o e; simp; omega
  exact ⟨G', h.to hs (hle k nl (Nat.le_refl _)) rfl, hle k _ (Nat.le_refl _), rfl, gr, hg, hga⟩

/-- The record of a new loop. -/
theorem enter_sound (h : At P B0 w0 G k nl s w) (hll : s.loops.length = nl) {lp : ALoop} {rc : Loop} (h1 : rc.state = .ready ∧ lp.ready = true ∧ lp.pend = none ∧ rc.pending = none) (hp : rc.params.toList = lp.params) (ha : comp P rc.assign = some lp.assign)
    (hb : comp P rc.body = some lp.body) (ta : tmpsOk rc.tmps.size lp.assign = true) (tb : tmpsOk rc.tmps.size lp.body = true) (tp : ∀ p, p ∈ lp.params → p < rc.tmps.size) (hR : ∀ t, Rel G k nl (lp.tmps t) (rc.tmps.getD t Go.undef)) :
    ∃ G', At P B0 w0 G' k nl (enterLoop s lp) (w.alloc (.loop rc)) ∧ GLe (k + 1) nl G G' ∧ G'.acts = G.acts ∧ G'.loops = G.loops ++ [w.heap.size] := by
  let G' : Ghost := { G with loops := G.loops ++ [w.heap.size], own := fun b => if b = w.heap.size then some (.loop nl) else G.own b }
  have hgl : G.loops.length = nl := by rw [h.rel.llen, hll]
  have hle : ∀ k' nl', GLe k' nl' G G' := fun k' nl' => ⟨fun _ _ _ e => e, fun d q hd e => ⟨q, e, .refl q, fun _ => rfl⟩, fun l r _ e => get_old e⟩
  have hko : KeepsOwn (fun _ => False) G w G' (w.alloc (.loop rc)) := fun b o e _ => by
    have hlt := h.rel.ownlt b o e
    exact ⟨by simp only [G']; rw [if_neg (by omega)]; exact e, Below.heap_alloc _ _ _ hlt, fun _ e => e⟩
  have hlen : G.acts.length = k + 1 := by rw [h.rel.len, h.len]
  have hs : SRel P B0 w0 G' (enterLoop s lp) (w.alloc (.loop rc)) := by
    refine ⟨fun b i v e => alloc_imm h.rel _ e, h.rel.len, by simp [G', enterLoop, h.rel.llen], fun d q gq a1 a2 => ?_, fun l q r a1 a2 => ?_, fun d q a1 => ?_, h.rel.nlm, h.rel.below.alloc h.rel.low _, by have := h.rel.low; simp; omega, fun b o e => ?_⟩
    · exact (h.rel.rec_ d q gq a1 a2).keep (hle d _) hko (fun o ho => ho.elim)
    · rcases get_push a1 with ⟨hl, a1⟩ | ⟨hl, rfl⟩
      · rcases get_push a2 with ⟨_, a2⟩ | ⟨hl2, _⟩
        · have hq := h.rel.loop l q r a1 a2
          obtain ⟨k1, k2, _⟩ := hko _ _ hq.2.1 (fun x => x)
          exact hq.keep (fun k' nl' _ _ => hle k' nl') (Nat.le_refl _) k1 k2
        · omega
      · have hr : r = w.heap.size := by
          rcases get_push a2 with ⟨hl2, _⟩ | ⟨_, e⟩
          · omega
          · exact e
        subst hr
        have hlnl : l = nl := by omega
        subst hlnl
        refine ⟨h.rel.low, by simp [G'], rc, World.alloc_heap_new w _, fun _ => ⟨h1.1, h1.2.2.1⟩, fun e => ?_, ?_, ?_, hp, ha, hb, ta, tb, tp, k, l, ?_, Nat.le_refl _, fun d gq e hlt => ?_, fun t => (hR t).mono (hle _ _) (Nat.le_refl _) (Nat.le_refl _)⟩
        · rw [h1.2.1] at e; cases e
        · rw [h1.2.2.2, h1.2.2.1]; rfl
        · rw [h1.2.2.1]; simp
        · show k + 1 ≤ G.acts.length
          omega
        · have e' : G.acts[d]? = some gq := e
          have := h.rel.nls d gq e'
          omega
    · have := h.rel.nls d q a1
      simp [enterLoop]; omega
    · simp only [G'] at e
      split at e
      · rename_i hb; subst hb; simp
      · have := h.rel.ownlt b o e; simp; omega
  obtain ⟨gr, g1, g2⟩ := h.cur
  exact ⟨G', ⟨hs, h.len, gr, g1, g2⟩, hle _ _, rfl, rfl⟩

/-- A record is turned. -/
theorem setLoop_sound (h : SRel P B0 w0 G s w) {l r : Nat} {lp lp' : ALoop} {rc rc' : Loop} (hl : s.loops[l]? = some lp) (hr : G.loops[l]? = some r) (hrc : w.heap[r]? = some (.loop rc)) {f : ALoop → ALoop} (hf : f lp = lp') (ho : LoopObj P G l lp' rc') :
    SRel P B0 w0 G (setLoop s l f) (w.putObj r (.loop rc')) := by
  obtain ⟨b1, b2, _⟩ := h.loop l lp r hl hr
  have hko : KeepsOwn (· = .loop l) G w G (w.putObj r (.loop rc')) := fun b o e ho => ⟨e, World.putObj_heap_other (fun hb => ho (by subst hb; rw [b2] at e; injection e with e; exact e.symm)), fun _ e => e⟩
  have hrl : r < w.heap.size := (Array.getElem?_eq_some_iff.1 hrc).1
  refine ⟨fun b i v e => ?_, h.len, by simp [setLoop, h.llen], fun d q gq a1 a2 => ?_, fun l' q r' a1 a2 => ?_, fun d q a1 => ?_, h.nlm, ?_, by rw [World.putObj_size]; exact h.low, fun b o e => by rw [World.putObj_size]; exact h.ownlt b o e⟩
  · have := h.imm b i v e
    by_cases hb : b = r
    · subst hb
      simp only [World.cell?, hrc] at this
      cases this
    · have hh : (w.putObj r (.loop rc')).heap[b]? = w.heap[b]? := World.putObj_heap_other hb
      rw [← this]
      simp only [World.cell?, hh]
  · exact (h.rec_ d q gq a1 a2).keep (GLe.refl _ _ _) hko (fun o ho => by subst ho; exact ⟨fun _ e => (by cases e), fun _ e => (by cases e), fun _ e => (by cases e)⟩)
  · simp only [setLoop, modify_get] at a1
    by_cases hll : l = l'
    · subst hll
      rw [if_pos rfl, hl] at a1
      simp only [Option.map_some, Option.some.injEq] at a1
      rw [hr] at a2
      injection a2 with a2
      subst a2
      rw [hf] at a1
      subst a1
      exact ⟨b1, b2, rc', World.putObj_heap_same hrl, ho⟩
    · rw [if_neg hll] at a1
      have hq := h.loop l' q r' a1 a2
      obtain ⟨k1, k2, _⟩ := hko _ _ hq.2.1 (fun e => hll (by injection e with e; exact e.symm))
      exact hq.keep (fun _ _ _ _ => GLe.refl _ _ _) (Nat.le_refl _) k1 k2
  · have := h.nls d q a1
    simp [setLoop]; omega
  · exact h.below.trans ⟨rfl, rfl, rfl, by simp, fun c hc => World.putObj_heap_other (by omega)⟩

/-- The loop is left. -/
theorem leave_sound (h : At P B0 w0 G k nl s w) (hll : s.loops.length = nl + 1) {r : Nat} {lp : ALoop} {rc : Loop} {o' : Obj} (hl : s.loops[nl]? = some lp) (hr : G.loops[nl]? = some r) (hrc : w.heap[r]? = some (.loop rc)) :
    ∃ G', At P B0 w0 G' k nl { s with loops := s.loops.take nl } (w.putObj r o') ∧ GLe (k + 1) nl G G' ∧ G'.acts = G.acts := by
  obtain ⟨b1, b2, _⟩ := h.rel.loop nl lp r hl hr
  let G' : Ghost := { G with loops := G.loops.take nl, own := fun b => if b = r then none else G.own b }
  have hle : ∀ k' nl', nl' ≤ nl → GLe k' nl' G G' := fun k' nl' hn => ⟨fun _ _ _ e => e, fun d q hd e => ⟨q, e, .refl q, fun _ => rfl⟩, fun l r hlt e => by
    show (G.loops.take nl)[l]? = _
    rw [List.getElem?_take, if_pos (by omega)]
    exact e⟩
  have hko : KeepsOwn (· = .loop nl) G w G' (w.putObj r o') := fun b o e ho => by
    have hb : b ≠ r := fun hb => ho (by subst hb; rw [b2] at e; injection e with e; exact e.symm)
    exact ⟨by simp only [G']; rw [if_neg hb]; exact e, World.putObj_heap_other hb, fun _ e => e⟩
  have hlen : G.acts.length = k + 1 := by rw [h.rel.len, h.len]
  obtain ⟨gk, g1, g2⟩ := h.cur
  have hnls : ∀ (d : Nat) (q : GRec), G.acts[d]? = some q → q.nl ≤ nl := fun d q e => by
    have hd : d ≤ k := by have := (List.getElem?_eq_some_iff.1 e).1; omega
    rw [← g2]
    exact h.rel.nlm d k q gk hd e g1
  have hs : SRel P B0 w0 G' { s with loops := s.loops.take nl } (w.putObj r o') := by
    refine ⟨fun b i v e => ?_, h.rel.len, by simp [G', h.rel.llen], fun d q gq a1 a2 => ?_, fun l' q r' a1 a2 => ?_, fun d q a1 => ?_, h.rel.nlm, ?_, by rw [World.putObj_size]; exact h.rel.low, fun b o e => ?_⟩
    · have := h.rel.imm b i v e
      by_cases hb : b = r
      · subst hb
        simp only [World.cell?, hrc] at this
        cases this
      · have hh : (w.putObj r o').heap[b]? = w.heap[b]? := World.putObj_heap_other hb
        rw [← this]
        simp only [World.cell?, hh]
    · exact (h.rel.rec_ d q gq a1 a2).keep (hle d _ (hnls d gq a2)) hko (fun o ho => by subst ho; exact ⟨fun _ e => (by cases e), fun _ e => (by cases e), fun _ e => (by cases e)⟩)
    · have a1' : (s.loops.take nl)[l']? = some q := a1
      have a2' : (G.loops.take nl)[l']? = some r' := a2
      rw [List.getElem?_take] at a1' a2'
      split at a1'
      · rename_i hlt
        rw [if_pos hlt] at a2'
        have hq := h.rel.loop l' q r' a1' a2'
        obtain ⟨k1, k2, _⟩ := hko _ _ hq.2.1 (fun e => by injection e with e; omega)
        exact hq.keep (fun k' nl' _ hn => hle k' nl' (by omega)) (Nat.le_refl _) k1 k2
      · cases a1'
    · have a1' : G.acts[d]? = some q := a1
      have := hnls d q a1'
      simp; omega
    · exact h.rel.below.trans ⟨rfl, rfl, rfl, by simp, fun c hc => World.putObj_heap_other (by omega)⟩
    · rw [World.putObj_size]
      simp only [G'] at e
      split at e
      · cases e
      · exact h.rel.ownlt b o e
  exact ⟨G', ⟨hs, h.len, gk, g1, g2⟩, hle _ _ (Nat.le_refl _), rfl⟩

end
end Go.Ax
