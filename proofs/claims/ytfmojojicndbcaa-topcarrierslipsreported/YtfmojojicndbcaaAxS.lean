/-
  An activation begins, and ends.
-/
import Derived.Test.YtfmojojicndbcaaAxR
namespace Go.Ax
open Go.RowKit

section
variable {P : Program} {B0 : Nat} {w0 : World} {G : Ghost} {k nl : Nat} {w : World} {s : Sig}

/-! ### It begins -/

def Ghost.pushA (G : Ghost) (nl : Nat) : Ghost := { G with acts := G.acts ++ [⟨[], [], nl, []⟩] }

theorem Ghost.pushA_le (G : Ghost) (n : Nat) (k nl : Nat) : GLe k nl G (G.pushA n) :=
  ⟨fun _ _ _ e => e, fun _ gr _ e => ⟨gr, get_old e, .refl gr, fun _ => rfl⟩, fun _ _ _ e => e⟩

theorem push_sound (h : SRel P B0 w0 G s w) : At P B0 w0 (G.pushA s.loops.length) s.acts.length s.loops.length (s.push ⟨[], []⟩) w := by
  have hle := G.pushA_le s.loops.length
  have hk : KeepsOwn (fun _ => False) G w (G.pushA s.loops.length) w := fun b o e _ => ⟨e, rfl, fun _ e => e⟩
  have hnew : (G.pushA s.loops.length).acts[s.acts.length]? = some ⟨[], [], s.loops.length, []⟩ := by
    simp [Ghost.pushA, ← h.len]
  refine ⟨⟨h.imm, by simp [Ghost.pushA, Sig.push, h.len], h.llen, fun d r gr h1 h2 => ?_, fun l lp r h1 h2 => ?_, fun d gr h1 => ?_, fun d d' gr gr' hd h1 h2 => ?_, h.below, h.low, h.ownlt⟩, by simp [Sig.push], _, hnew, rfl⟩
  · rcases get_push h1 with ⟨hd, h1⟩ | ⟨hd, rfl⟩
    · rcases get_push h2 with ⟨_, h2⟩ | ⟨hd', _⟩
      · exact (h.rec_ d r gr h1 h2).keep (hle _ _) hk (fun o ho => ho.elim)
      · rw [h.len] at hd'; omega
    · rcases get_push h2 with ⟨hd', _⟩ | ⟨_, rfl⟩
      · rw [h.len] at hd'; omega
      · exact ⟨rfl, rfl, fun b cs blk e => by simp at e, fun g n T e => by simp at e, fun i b e => by simp at e⟩
  · have hr := h.loop l lp r h1 h2
    obtain ⟨k1, k2, _⟩ := hk _ _ hr.2.1 (fun x => x)
    exact hr.keep (fun k nl _ _ => hle k nl) (by simp [Ghost.pushA]) k1 k2
  · rcases get_push h1 with ⟨_, h1⟩ | ⟨_, rfl⟩
    · exact h.nls d gr h1
    · exact Nat.le_refl _
  · rcases get_push h1 with ⟨hl1, h1⟩ | ⟨hl1, rfl⟩
    · rcases get_push h2 with ⟨_, h2⟩ | ⟨_, rfl⟩
      · exact h.nlm d d' gr gr' hd h1 h2
      · exact h.nls d gr h1
    · rcases get_push h2 with ⟨hl2, _⟩ | ⟨_, rfl⟩
      · omega
      · exact Nat.le_refl _

/-! ### Its marks are taken -/

def Ghost.dropMarks (G : Ghost) (k : Nat) : Ghost :=
  { G with acts := G.acts.modify k fun q => { q with marks := [] }, own := fun b => match G.own b with
    | some (.mark d i) => if d = k then none else some (.mark d i)
    | o => o }

theorem Ghost.dropMarks_le (G : Ghost) (k nl : Nat) {k' : Nat} (hk : k' ≤ k) : GLe k' nl G (G.dropMarks k) :=
  ⟨fun _ _ _ e => e, fun d gr hd e => by
    by_cases hdk : k = d
    · subst hdk
      exact ⟨{ gr with marks := [] }, by simp only [Ghost.dropMarks, modify_get, if_pos, e]; rfl, ⟨fun _ _ e => e, fun _ T e => ⟨T, e, .refl T⟩, rfl⟩, fun hlt => by omega⟩
    · exact ⟨gr, by simp only [Ghost.dropMarks, modify_get, if_neg hdk, e], .refl gr, fun _ => rfl⟩, fun _ _ _ e => e⟩

theorem Ghost.dropMarks_own {G : Ghost} {k b : Nat} {o : Owner} (h : G.own b = some o) (ho : ∀ i, o ≠ .mark k i) : (G.dropMarks k).own b = some o := by
  simp only [Ghost.dropMarks, h]
  cases o with
  | mark d i =>
    simp only
    rw [if_neg (fun e => ho i (by rw [e]))]
  | _ => rfl

theorem dropMarks_sound (h : At P B0 w0 G k nl s w) : At P B0 w0 (G.dropMarks k) k nl s w := by
  have hlen : G.acts.length = k + 1 := by rw [h.rel.len, h.len]
  have hk : KeepsOwn (fun o => ∃ i, o = .mark k i) G w (G.dropMarks k) w := fun b o e ho => ⟨Ghost.dropMarks_own e (fun i e => ho ⟨i, e⟩), rfl, fun _ e => e⟩
  have hget : ∀ (d : Nat) (gr : GRec), (G.dropMarks k).acts[d]? = some gr → ∃ gr0, G.acts[d]? = some gr0 ∧ gr.nl = gr0.nl ∧ gr.bl = gr0.bl ∧ gr.tk = gr0.tk ∧ (d ≠ k → gr = gr0) ∧ (d = k → gr.marks = []) := fun d gr e => by
    simp only [Ghost.dropMarks, modify_get] at e
    by_cases hd : k = d
    · rw [if_pos hd] at e
      obtain ⟨g0, h1, rfl⟩ := Option.map_eq_some_iff.1 e
      exact ⟨g0, h1, rfl, rfl, rfl, fun hne => absurd hd.symm hne, fun _ => rfl⟩
    · rw [if_neg hd] at e
      exact ⟨gr, e, rfl, rfl, rfl, fun _ => rfl, fun e => absurd e.symm hd⟩
  have hs : SRel P B0 w0 (G.dropMarks k) s w := by
    refine ⟨h.rel.imm, by simp [Ghost.dropMarks, h.rel.len], h.rel.llen, fun d r gr h1 h2 => ?_, fun l lp r h1 h2 => ?_, fun d gr h1 => ?_, fun d d' gr gr' hd h1 h2 => ?_, h.rel.below, h.rel.low, fun b o e => ?_⟩
    · obtain ⟨g0, e0, e1, e2, e3, e4, e5⟩ := hget d gr h2
      have hr := h.rel.rec_ d r g0 h1 e0
      have hdk : d ≤ k := by have := (List.getElem?_eq_some_iff.1 h1).1; rw [h.len] at this; omega
      by_cases hd : d = k
      · subst hd
        refine ⟨by rw [e2]; exact hr.blen, by rw [e3]; exact hr.tlen, fun b cs blk a1 a2 => ?_, fun g n T a1 a2 => ?_, fun i b a1 => ?_⟩
        · rw [e2] at a2
          have hb := hr.box b cs blk a1 a2
          rw [e1]
          exact hb.keep (G.dropMarks_le d _ (Nat.le_refl _)) (Ghost.dropMarks_own hb.2.1 (fun i e => by cases e)) rfl (fun _ e => e)
        · rw [e3] at a2
          have ht := hr.tok g n T a1 a2
          refine ht.keep (fun hn => ?_) (fun _ => rfl) (fun _ _ e => e)
          obtain ⟨m, hm⟩ := Option.isSome_iff_exists.1 hn
          exact Ghost.dropMarks_own (ht.2 m hm).2.1 (fun i e => by cases e)
        · rw [e5 rfl] at a1
          simp at a1
      · rw [e4 hd]
        refine hr.keep (G.dropMarks_le k _ hdk) hk (fun o ho => ?_)
        obtain ⟨i, rfl⟩ := ho
        refine ⟨fun _ e => by (cases e), fun _ e => by (cases e), fun _ e => ?_⟩
        injection e with e _
        exact hd e.symm
    · have hr := h.rel.loop l lp r h1 h2
      obtain ⟨k1, k2, _⟩ := hk _ _ hr.2.1 (fun ⟨i, e⟩ => by cases e)
      exact hr.keep (fun k' nl' a1 _ => G.dropMarks_le k _ (by omega)) (by simp [Ghost.dropMarks]) k1 k2
    · obtain ⟨g0, e0, e1, _⟩ := hget d gr h1
      rw [e1]
      exact h.rel.nls d g0 e0
    · obtain ⟨g0, e0, e1, _⟩ := hget d gr h1
      obtain ⟨g0', e0', e1', _⟩ := hget d' gr' h2
      rw [e1, e1']
      exact h.rel.nlm d d' g0 g0' hd e0 e0'
    · simp only [Ghost.dropMarks] at e
      cases ho : G.own b with
      | none => rw [ho] at e; cases e
      | some o' => exact h.rel.ownlt b o' ho
  exact h.to hs (G.dropMarks_le k nl (Nat.le_refl _)) rfl

/-- A mark's block is turned: it is nobody's, from B0 on, and no cells. -/
theorem putMark {b : Nat} {o o' : Obj} (h : At P B0 w0 G k nl s w) (hb : B0 ≤ b) (hown : G.own b = none) (hw : w.heap[b]? = some o) (hc : ∀ a t f, o ≠ .cells a t f) : At P B0 w0 G k nl s (w.putObj b o') := by
  have hI : ∀ i v, G.I b i ≠ some v := fun i v e => by
    have := h.rel.imm b i v e
    simp only [World.cell?, hw] at this
    cases o <;> first | (exact absurd rfl (hc _ _ _)) | (simp at this)
  have hs : SRel P B0 w0 G s (w.putObj b o') := by
    refine h.rel.keep (fun _ _ _ e => e) rfl rfl (fun c q e _ => ⟨e, World.putObj_heap_other (fun hcb => ?_), fun _ e => e⟩) (fun c i v e => ?_) ?_ (fun c q e => ?_)
    · subst hcb
      rw [hown] at e
      cases e
    · have hne : c ≠ b := fun e' => hI i v (e' ▸ e)
      have := h.rel.imm c i v e
      have hh : (w.putObj b o').heap[c]? = w.heap[c]? := World.putObj_heap_other hne
      rw [← this]
      simp only [World.cell?, hh]
    · exact ⟨rfl, rfl, rfl, by simp, fun c hc => World.putObj_heap_other (by omega)⟩
    · rw [World.putObj_size]
      exact h.rel.ownlt c q e
  exact ⟨hs, h.len, h.cur⟩

/-! ### It ends -/

def Ghost.popA (G : Ghost) (k : Nat) (bl : List Nat) (w : World) : Ghost where
  I := fun b i => if b ∈ bl then w.cell? ⟨b, i, none⟩ else G.I b i
  acts := G.acts.dropLast
  loops := G.loops
  own := fun b => match G.own b with
    | some (.box d x) => if d = k then none else some (.box d x)
    | some (.tok d x) => if d = k then none else some (.tok d x)
    | some (.mark d x) => if d = k then none else some (.mark d x)
    | o => o

/-- Is it the owner of something in activation k? -/
def ownsIn (k : Nat) (o : Owner) : Prop := (∃ b, o = .box k b) ∨ (∃ g, o = .tok k g) ∨ ∃ i, o = .mark k i

theorem Ghost.popA_own {G : Ghost} {k b : Nat} {bl : List Nat} {o : Owner} (h : G.own b = some o) (ho : ¬ ownsIn k o) : (G.popA k bl w).own b = some o := by
  simp only [Ghost.popA, h]
  cases o with
  | box d x => simp only; rw [if_neg (fun e => ho (.inl ⟨x, by rw [e]⟩))]
  | tok d x => simp only; rw [if_neg (fun e => ho (.inr (.inl ⟨x, by rw [e]⟩)))]
  | mark d x => simp only; rw [if_neg (fun e => ho (.inr (.inr ⟨x, by rw [e]⟩)))]
  | loop l => rfl

theorem Ghost.popA_free {G : Ghost} {k b : Nat} {bl : List Nat} {o : Owner} (h : G.own b = some o) (ho : ownsIn k o) : (G.popA k bl w).own b = none := by
  simp only [Ghost.popA, h]
  rcases ho with ⟨x, rfl⟩ | ⟨x, rfl⟩ | ⟨x, rfl⟩ <;> simp

theorem dropLast_get {α : Type} {l : List α} {n d : Nat} (hl : l.length = n + 1) : l.dropLast[d]? = if d < n then l[d]? else none := by
  rw [List.getElem?_dropLast]
  simp only [hl, Nat.add_sub_cancel]

theorem pop_sound (h : At P B0 w0 G k nl s w) (hll : s.loops.length = nl) {gr : GRec} (hg : G.acts[k]? = some gr) :
    SRel P B0 w0 (G.popA k gr.bl w) s.pop w ∧ (∀ b i v, G.I b i = some v → (G.popA k gr.bl w).I b i = some v) ∧ (∀ b, b ∈ gr.bl → ∀ i, (G.popA k gr.bl w).I b i = w.cell? ⟨b, i, none⟩) ∧
    ∀ d, d < k → (G.popA k gr.bl w).acts[d]? = G.acts[d]? := by
  have hlen : G.acts.length = k + 1 := by rw [h.rel.len, h.len]
  obtain ⟨r, gr', hr, hg'⟩ := h.rec_ (Nat.le_refl k)
  rw [hg] at hg'
  injection hg' with hg'
  subst hg'
  have hrr := h.rel.rec_ k r gr hr hg
  have hnl : gr.nl = nl := by obtain ⟨g', e1, e2⟩ := h.cur; rw [hg] at e1; injection e1 with e1; rw [e1]; exact e2
  have hbox : ∀ b, b ∈ gr.bl → ∃ x, G.own b = some (.box k x) ∧ ∀ i, G.I b i = none := fun b hb => by
    obtain ⟨x, hx, rfl⟩ := List.getElem_of_mem hb
    have hx' : x < r.boxes.length := by rw [← hrr.blen]; exact hx
    have := hrr.box x _ _ (List.getElem?_eq_getElem hx') (List.getElem?_eq_getElem hx)
    exact ⟨x, this.2.1, this.2.2.1⟩
  have hI : ∀ b i v, G.I b i = some v → (G.popA k gr.bl w).I b i = some v := fun b i v e => by
    simp only [Ghost.popA]
    rw [if_neg (fun hb => by obtain ⟨_, _, hn⟩ := hbox b hb; rw [hn] at e; cases e)]
    exact e
  have hacts : ∀ d, d < k → (G.popA k gr.bl w).acts[d]? = G.acts[d]? := fun d hd => by
    simp only [Ghost.popA, dropLast_get hlen]
    rw [if_pos hd]
  have hget : ∀ (d : Nat) (q : GRec), (G.popA k gr.bl w).acts[d]? = some q → d < k ∧ G.acts[d]? = some q := fun d q e => by
    simp only [Ghost.popA, dropLast_get hlen] at e
    split at e
    · exact ⟨by assumption, e⟩
    · cases e
  have hle : ∀ k' nl', k' < k → GLe k' nl' G (G.popA k gr.bl w) := fun k' nl' hk' =>
    ⟨hI, fun d q hd e => ⟨q, by rw [hacts d (by omega)]; exact e, .refl q, fun _ => rfl⟩, fun _ _ _ e => e⟩
  have hko : KeepsOwn (ownsIn k) G w (G.popA k gr.bl w) w := fun b o e ho => ⟨Ghost.popA_own e ho, rfl, fun i hi => by
    simp only [Ghost.popA]
    rw [if_neg (fun hb => by
      obtain ⟨x, hx, _⟩ := hbox b hb
      rw [e] at hx
      injection hx with hx
      exact ho (.inl ⟨x, hx⟩))]
    exact hi⟩
  refine ⟨⟨fun b i v e => ?_, by simp [Ghost.popA, Sig.pop, h.rel.len], h.rel.llen, fun d q gq h1 h2 => ?_, fun l lp q h1 h2 => ?_, fun d q h1 => ?_, fun d d' q q' hd h1 h2 => ?_, h.rel.below, h.rel.low, fun b o e => ?_⟩, hI, fun b hb i => ?_, hacts⟩
  · simp only [Ghost.popA] at e
    split at e
    · exact e
    · exact h.rel.imm b i v e
  · obtain ⟨hdk, h2⟩ := hget d gq h2
    have h1' : s.acts[d]? = some q := by
      simp only [Sig.pop, dropLast_get h.len] at h1
      rw [if_pos hdk] at h1
      exact h1
    refine (h.rel.rec_ d q gq h1' h2).keep (hle _ _ hdk) hko (fun o ho => ?_)
    rcases ho with ⟨x, rfl⟩ | ⟨x, rfl⟩ | ⟨x, rfl⟩
    · exact ⟨fun _ e => by (injection e with e _; omega), fun _ e => by (cases e), fun _ e => by (cases e)⟩
    · exact ⟨fun _ e => by (cases e), fun _ e => by (injection e with e _; omega), fun _ e => by (cases e)⟩
    · exact ⟨fun _ e => by (cases e), fun _ e => by (cases e), fun _ e => by (injection e with e _; omega)⟩
  · have hlp := h.rel.loop l lp q h1 h2
    obtain ⟨b1, b2, rc, b3, b4⟩ := hlp
    obtain ⟨k1, k2, _⟩ := hko _ _ b2 (fun ho => by rcases ho with ⟨x, e⟩ | ⟨x, e⟩ | ⟨x, e⟩ <;> cases e)
    obtain ⟨a1, a2, a3, a4, a5, a6, a7, a8, a9, a10, k', nl', a11, a12, a14, a13⟩ := b4
    have hl : l < nl := by have := (List.getElem?_eq_some_iff.1 h1).1; simp only [Sig.pop] at this; omega
    have hk' : k' < k := a14 k gr hg (by omega)
    refine ⟨b1, k1, rc, k2.trans b3, a1, a2, a3, a4, a5, a6, a7, a8, a9, a10, k', nl', ?_, a12, fun d q' e hlt => a14 d q' (hget d q' e).2 hlt, fun t => (a13 t).mono (hle k' nl' hk') (Nat.le_refl _) (Nat.le_refl _)⟩
    simp [Ghost.popA, hlen]
    omega
  · exact h.rel.nls d q (hget d q h1).2
  · exact h.rel.nlm d d' q q' hd (hget d q h1).2 (hget d' q' h2).2
  · simp only [Ghost.popA] at e
    cases ho : G.own b with
    | none => rw [ho] at e; cases e
    | some o' => exact h.rel.ownlt b o' ho
  · simp only [Ghost.popA]
    rw [if_pos hb]

end
end Go.Ax
