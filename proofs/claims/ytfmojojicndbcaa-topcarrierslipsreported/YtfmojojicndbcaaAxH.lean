/-
  Stores: what goes into an outer activation's box.
-/
import Derived.Test.YtfmojojicndbcaaAxG
namespace Go.Ax
open Go.RowKit

section
variable {P : Program} {B0 : Nat} {w0 : World} {G : Ghost} {k nl : Nat} {w : World} {s : Sig}

theorem ntok_eq {s : Sig} {d : Nat} {r : Rec} (h : s.acts[d]? = some r) : s.ntok d = r.toks.length := by simp [Sig.ntok, h]

theorem tok_eq {s : Sig} {d g n : Nat} (h : s.tok d g = some n) : ∃ r, s.acts[d]? = some r ∧ r.toks[g]? = some (some n) := by
  unfold Sig.tok at h
  cases hr : s.acts[d]? with
  | none => rw [hr] at h; cases h
  | some r =>
    rw [hr] at h
    simp only [Option.bind_some] at h
    cases hq : r.toks[g]? with
    | none => rw [hq] at h; cases h
    | some q => rw [hq] at h; simp only [Option.join_some] at h; subst h; exact ⟨r, rfl, hq⟩

/-- The right is given up. -/
theorem dropTok (h : SRel P B0 w0 G s w) {d g n : Nat} {r : Rec} {gr : GRec} {T : TokG} (hr : s.acts[d]? = some r) (hg : G.acts[d]? = some gr) (hrt : r.toks[g]? = some (some n)) (hgt : gr.tk[g]? = some T) :
    ∃ G', G'.acts = G.acts.modify d (fun q => { q with tk := q.tk.set g { T with n := none } }) ∧ G'.I = G.I ∧ G'.own T.blk = none ∧ (∀ b o, G'.own b = some o → G.own b = some o ∧ b ≠ T.blk) ∧ SRel P B0 w0 G' (s.setTok d g none) w ∧ ∀ k nl, GLe k nl G G' := by
  have hrr := h.rec_ d r gr hr hg
  obtain ⟨hTn, hT2⟩ := hrr.tok g (some n) T hrt hgt
  obtain ⟨t1, t2, t3, t4, t5, arr, ty, t6, t7⟩ := hT2 _ rfl
  let G' : Ghost := { G with acts := G.acts.modify d fun q => { q with tk := q.tk.set g { T with n := none } }, own := fun b => if b = T.blk then none else G.own b }
  have hk : KeepsOwn (· = .tok d g) G w G' w := fun b o ho hne => by
    refine ⟨?_, rfl, fun _ e => e⟩
    simp only [G']
    rw [if_neg]
    · exact ho
    · rintro rfl
      rw [t2] at ho
      injection ho with ho
      exact hne ho.symm
  have hle0 : RecLe gr { gr with tk := gr.tk.set g { T with n := none } } := ⟨fun b blk e => e, fun j U e => by
    by_cases hj : j = g
    · subst hj
      rw [hgt] at e
      injection e with e
      subst e
      exact ⟨_, set_same hgt, rfl, .inr (.inl rfl)⟩
    · exact ⟨U, by show (gr.tk.set g _)[j]? = _; rw [List.getElem?_set, if_neg (fun e => hj e.symm)]; exact e, .refl U⟩, rfl⟩
  have hgle : GLe d gr.nl G G' := ⟨fun _ _ _ e => e, fun d' q _ e => by
    show ∃ gr', (G.acts.modify d _)[d']? = some gr' ∧ _
    rw [modify_get]
    by_cases hdd : d = d'
    · subst hdd
      rw [hg] at e
      injection e with e
      subst e
      exact ⟨_, by rw [if_pos rfl, hg]; rfl, hle0, fun _ => rfl⟩
    · exact ⟨q, by rw [if_neg hdd]; exact e, .refl q, fun _ => rfl⟩, fun _ _ _ e => e⟩
  have hstep := h.onRec (G' := G') (w' := w) hr hg (fun r => { r with toks := r.toks.set g none }) (fun q => { q with tk := q.tk.set g { T with n := none } }) (· = .tok d g) rfl rfl (fun _ _ _ e => e) hle0 rfl hk
    (fun o ho => .inr ⟨_, ho⟩) ?_ h.imm (Below.refl _ _) (fun b o e => ?_)
  · refine ⟨G', rfl, rfl, by simp [G'], fun b o e => ?_, hstep.1, hstep.2⟩
    simp only [G'] at e
    split at e
    · cases e
    · exact ⟨e, by assumption⟩
  · refine hrr.tokens (toks' := r.toks.set g none) (tk' := gr.tk.set g { T with n := none }) hgle hk (by simp [hrr.tlen]) (fun j p U e1 e2 => ?_)
    rcases set_get e1 with ⟨hne, e1⟩ | ⟨rfl, rfl, _⟩
    · rcases set_get e2 with ⟨_, e2⟩ | ⟨hj, _⟩
      · exact .inl ⟨hne, e1, e2⟩
      · exact absurd hj hne
    · rcases set_get e2 with ⟨hj, _⟩ | ⟨_, rfl, _⟩
      · exact absurd rfl hj
      · exact .inr ⟨rfl, rfl, fun m hm => by cases hm⟩
  · simp only [G'] at e
    split at e
    · cases e
    · exact h.ownlt b o e

/-- A right that nobody has is given. -/
theorem addTok_free (h : SRel P B0 w0 G s w) {d n : Nat} {r : Rec} {gr : GRec} {T : TokG} (hr : s.acts[d]? = some r) (hg : G.acts[d]? = some gr) (hfree : G.own T.blk = none) (hTn : T.n = some n)
    (hT : B0 ≤ T.blk ∧ (∀ i, n * T.es ≤ i → G.I T.blk i = none) ∧ n ≤ T.cap ∧ 0 < T.es ∧ ∃ arr ty, w.heap[T.blk]? = some (.cells arr ty) ∧ arr.size = T.cap * T.es) :
    ∃ G', G'.acts = G.acts.modify d (fun q => { q with tk := q.tk ++ [T] }) ∧ G'.I = G.I ∧ SRel P B0 w0 G' (s.addTok d n) w ∧ ∀ k nl, GLe k nl G G' := by
  have hrr := h.rec_ d r gr hr hg
  obtain ⟨t1, t3, t4, t5, arr, ty, t6, t7⟩ := hT
  let G' : Ghost := { G with acts := G.acts.modify d fun q => { q with tk := q.tk ++ [T] }, own := fun b => if b = T.blk then some (.tok d r.toks.length) else G.own b }
  have hk : KeepsOwn (· = .tok d r.toks.length) G w G' w := fun b o ho _ => by
    refine ⟨?_, rfl, fun _ e => e⟩
    simp only [G']
    rw [if_neg]
    · exact ho
    · rintro rfl
      rw [hfree] at ho
      cases ho
  have hle0 : RecLe gr { gr with tk := gr.tk ++ [T] } := ⟨fun b blk e => e, fun g U e => ⟨U, get_old e, .refl U⟩, rfl⟩
  have hgle : GLe d gr.nl G G' := ⟨fun _ _ _ e => e, fun d' q _ e => by
    show ∃ gr', (G.acts.modify d _)[d']? = some gr' ∧ _
    rw [modify_get]
    by_cases hdd : d = d'
    · subst hdd
      rw [hg] at e
      injection e with e
      subst e
      exact ⟨_, by rw [if_pos rfl, hg]; rfl, hle0, fun _ => rfl⟩
    · exact ⟨q, by rw [if_neg hdd]; exact e, .refl q, fun _ => rfl⟩, fun _ _ _ e => e⟩
  have hstep := h.onRec (G' := G') (w' := w) hr hg (fun r => { r with toks := r.toks ++ [some n] }) (fun q => { q with tk := q.tk ++ [T] }) (· = .tok d r.toks.length) rfl rfl (fun _ _ _ e => e) hle0 rfl hk
    (fun o ho => .inr ⟨_, ho⟩) ?_ h.imm (Below.refl _ _) (fun b o e => ?_)
  · exact ⟨G', rfl, rfl, hstep.1, hstep.2⟩
  · refine hrr.tokens (toks' := r.toks ++ [some n]) (tk' := gr.tk ++ [T]) hgle hk (by simp [hrr.tlen]) (fun g m U e1 e2 => ?_)
    rcases get_push e1 with ⟨hlt, e1⟩ | ⟨rfl, rfl⟩
    · refine .inl ⟨by omega, e1, ?_⟩
      rcases get_push e2 with ⟨_, e2⟩ | ⟨hb, _⟩
      · exact e2
      · rw [hrr.tlen] at hb; omega
    · have : U = T := by
        rcases get_push e2 with ⟨hb, _⟩ | ⟨_, e⟩
        · rw [hrr.tlen] at hb; omega
        · exact e
      subst this
      refine .inr ⟨rfl, hTn, fun m hm => ?_⟩
      injection hm with hm
      subst hm
      exact ⟨t1, by simp [G'], t3, t4, t5, arr, ty, t6, t7⟩
  · simp only [G'] at e
    split at e
    · rename_i hb; subst hb; exact (Array.getElem?_eq_some_iff.1 t6).1
    · exact h.ownlt b o e

/-- What a value becomes in an outer activation's box. -/
theorem fit_sound (h : At P B0 w0 G k nl s w) {d nd : Nat} {x x' : AV} {v : Value} {s' : Sig} (hdk : d < k) (hx : Rel G k nl x v) (hc : x.isCell = true) (hf : s.fit d x = some (x', s')) :
    ∃ G', At P B0 w0 G' k nl s' w ∧ GLe (k + 1) s.loops.length G G' ∧ s'.loops = s.loops ∧ Rel G' d nd x' v ∧ x'.isCell = true := by
  have hself := GLe.refl (k + 1) s.loops.length G
  by_cases h1 : ∃ d' g es xs, x = .slice (.tok d' g) es xs
  · obtain ⟨d', g, es, xs, rfl⟩ := h1
    simp only [Sig.fit] at hf
    split at hf
    · rename_i hle
      injection hf with hf
      injection hf with e1 e2
      subst e1 e2
      refine ⟨G, h, hself, rfl, ?_, rfl⟩
      cases hx with
      | cl hx => exact .cl hx
      | tok T gr hd hg ht hes hc hn => exact .tok T gr hle hg ht hes hc hn
    · rename_i hle
      split at hf
      · rename_i hcur
        obtain ⟨hcd, hct⟩ := hcur
        injection hf with hf
        injection hf with e1 e2
        subst e1 e2
        rw [h.cur_eq] at hcd
        subst hcd
        cases hx with
        | cl hx => cases hx with
          | slice f ho => rcases ho with h | ⟨h, _⟩ <;> cases h
          | empty ho => rcases ho with h | h <;> cases h
        | tok T gr hd hg ht hes hxc hn =>
        obtain ⟨r, hr, hrt⟩ := tok_eq hct
        have hrr := h.rel.rec_ _ r gr hr hg
        obtain ⟨hTn, hT2⟩ := hrr.tok g _ T hrt ht
        obtain ⟨t1, t2, t3, t4, t5, arr, ty, t6, t7⟩ := hT2 _ rfl
        obtain ⟨_, heq⟩ := hn _ hTn
        obtain ⟨rfl, rfl⟩ := heq rfl
        obtain ⟨G1, a1, a2, a3, _, a5, a6⟩ := dropTok h.rel hr hg hrt ht
        obtain ⟨rd, grd, hrd, hgd⟩ := h.rec_ (Nat.le_of_lt hdk)
        have hne : d' ≠ d := by omega
        have hrd1 : (s.setTok d' g none).acts[d]? = some rd := by
          simp only [Sig.setTok, Sig.onRec, modify_get]
          rw [if_neg hne]; exact hrd
        have hgd1 : G1.acts[d]? = some grd := by
          rw [a1, modify_get, if_neg hne]; exact hgd
        obtain ⟨G2, b1, b2, b3, b4⟩ := addTok_free a5 (T := T) hrd1 hgd1 a3 hTn ⟨t1, by rw [a2]; exact t3, t4, t5, arr, ty, t6, t7⟩
        have hle12 : GLe (d' + 1) s.loops.length G G2 := (a6 _ _).trans (b4 _ _)
        refine ⟨G2, h.to b3 (hle12.less (by omega) h.nle) (by simp [Sig.addTok, Sig.setTok, Sig.onRec]), hle12, rfl, ?_, rfl⟩
        have hga : G2.acts[d]? = some { grd with tk := grd.tk ++ [T] } := by rw [b1, modify_get, if_pos rfl, hgd1]; rfl
        have hnt : s.ntok d = grd.tk.length := by rw [ntok_eq hrd, (h.rel.rec_ d rd grd hrd hgd).tlen]
        rw [hnt]
        refine .tok T _ (Nat.le_refl _) hga (by show (grd.tk ++ [T])[grd.tk.length]? = _; rw [List.getElem?_append_right (Nat.le_refl _)]; simp) hes (hxc.mono hle12.I) hn
      · injection hf with hf
        injection hf with e1 e2
        subst e1 e2
        exact ⟨G, h, hself, rfl, .cl (hx.close (z := .slice .any es xs) rfl), rfl⟩
  · by_cases h2 : ∃ d' b off, x = .ptr d' b off
    · obtain ⟨d', b, off, rfl⟩ := h2
      simp only [Sig.fit] at hf
      split at hf
      · rename_i hle
        injection hf with hf
        injection hf with e1 e2
        subst e1 e2
        obtain ⟨blk, gr, rfl, _, hg, hb⟩ := hx.inv_ptr
        exact ⟨G, h, hself, rfl, .ptr gr hle hg hb, rfl⟩
      · cases hf
    · by_cases h3 : ∃ d' b off es n cap, x = .rsl d' b off es n cap
      · obtain ⟨d', b, off, es, n, cap, rfl⟩ := h3
        simp only [Sig.fit] at hf
        split at hf
        · rename_i hle
          injection hf with hf
          injection hf with e1 e2
          subst e1 e2
          obtain ⟨blk, gr, rfl, _, hg, hb, hn⟩ := hx.inv_rsl
          exact ⟨G, h, hself, rfl, .rsl gr hle hg hb hn, rfl⟩
        · cases hf
      · have he : s.fit d x = x.close.map (·, s) := by
          unfold Sig.fit
          split
          · exact absurd ⟨_, _, _, _, rfl⟩ h1
          · exact absurd ⟨_, _, _, rfl⟩ h2
          · exact absurd ⟨_, _, _, _, _, _, rfl⟩ h3
          · rfl
        rw [he] at hf
        cases hcl : x.close with
        | none => rw [hcl] at hf; cases hf
        | some z =>
          rw [hcl] at hf
          injection hf with hf
          injection hf with e1 e2
          subst e1 e2
          exact ⟨G, h, hself, rfl, .cl (hx.close hcl), close_isCell hcl hc⟩

theorem fitAll_sound {d nd : Nat} (hdk : d < k) : ∀ {xs ys : List AV} {vs : List Value} {G : Ghost} {s s' : Sig}, At P B0 w0 G k nl s w → (hl : vs.length = xs.length) → (∀ i (hi : i < xs.length) (hj : i < vs.length), Rel G k nl xs[i] vs[i] ∧ xs[i].isCell = true) →
    (hnd : ∀ gr, G.acts[d]? = some gr → gr.nl = nd) → s.fitAll d xs = some (ys, s') →
    ∃ G', At P B0 w0 G' k nl s' w ∧ GLe (k + 1) s.loops.length G G' ∧ s'.loops = s.loops ∧ ys.length = xs.length ∧ ∀ i (hi : i < ys.length) (hj : i < vs.length), Rel G' d nd ys[i] vs[i] ∧ ys[i].isCell = true
  | [], ys, vs, G, s, s', h, hl, _, _, hf => by
    simp only [Sig.fitAll] at hf
    injection hf with hf
    injection hf with e1 e2
    subst e1 e2
    exact ⟨G, h, GLe.refl _ _ _, rfl, rfl, fun i hi => absurd hi (Nat.not_lt_zero _)⟩
  | x :: xs, ys, [], G, s, s', h, hl, _, _, hf => by simp at hl
  | x :: xs, ys, v :: vs, G, s, s', h, hl, hR, hnd, hf => by
    simp only [Sig.fitAll] at hf
    split at hf
    · cases hf
    · rename_i y s1 hy
      split at hf
      · cases hf
      · rename_i zs s2 hz
        injection hf with hf
        injection hf with e1 e2
        subst e1 e2
        have h0 := hR 0 (by simp) (by simp)
        obtain ⟨G1, a1, a2, a3, a4, a5⟩ := fit_sound (nd := nd) h hdk h0.1 h0.2 hy
        have hlvl : nd ≤ s.loops.length := by
          obtain ⟨_, gr, _, hg⟩ := h.rec_ (Nat.le_of_lt hdk)
          rw [← hnd gr hg]
          exact h.rel.nls _ _ hg
        obtain ⟨G2, b1, b2, b3, b4, b5⟩ := fitAll_sound hdk (nd := nd) a1 (by simpa using hl) (fun i hi hj => by
          have := hR (i + 1) (by simpa using hi) (by simpa using hj)
          exact ⟨this.1.mono (a2.less (by omega) h.nle) (Nat.le_refl _) (Nat.le_refl _), this.2⟩) (fun gr hg => by
          obtain ⟨_, gr0, _, hg0⟩ := h.rec_ (Nat.le_of_lt hdk)
          obtain ⟨gr', hg', hle, _⟩ := a2.acts d gr0 (by omega) hg0
          rw [hg] at hg'
          injection hg' with hg'
          subst hg'
          exact hle.nl.trans (hnd _ hg0)) hz
        rw [a3] at b2
        refine ⟨G2, b1, a2.trans b2, b3.trans a3, by simp [b4], fun i hi hj => ?_⟩
        cases i with
        | zero => exact ⟨a4.mono (b2.less (by omega) hlvl) (Nat.le_refl _) (Nat.le_refl _), a5⟩
        | succ i => exact b5 i (by simpa using hi) (by simpa using hj)

/-- A store. -/
theorem store_sound (h : At P B0 w0 G k nl s w) {x y : AV} {px v : Value} {n : Nat} {t : TypeId} {s' : Sig} (hx : Rel G k nl x px) (hy : Rel G k nl y v) (hn : sizeP P t = some n) (hs : s.store n x y = some s') :
    ∃ w', (Instr.storeAt t px v).run P w = .ok () w' ∧ StepTo P B0 w0 G k nl s s' w' AV.undef Go.undef := by
  unfold Sig.store at hs
  split at hs
  case h_2 => cases hs
  rename_i d b off
  split at hs
  case isFalse => cases hs
  rename_i hcond
  obtain ⟨hro, hlen, hall⟩ := hcond
  obtain ⟨blk, gr, rfl, hd, hg, hbl⟩ := hx.inv_ptr
  obtain ⟨hsz, hcells⟩ := hy.cells hall
  have hvsz : v.cells.size = n := hsz.trans hlen
  have hcell : ∀ c, c ∈ y.cells → c.isCell = true := fun c hc => List.all_eq_true.1 hall c hc
  have hone : ∀ u, u ∈ v.cells.toList → u.oneCell' = true := fun u hu => by
    obtain ⟨i, hi, rfl⟩ := List.getElem_of_mem hu
    have hi' : i < y.cells.length := by rw [← hsz]; simpa using hi
    have := hcells i hi'
    have he : v.cells.getD i Go.undef = v.cells.toList[i] := by
      have : i < v.cells.size := by simpa using hi
      simp [Array.getD, this]
    rw [he] at this
    exact oneCell_of_rel this (hcell _ (List.getElem_mem hi'))
  split at hs
  · cases hs
  rename_i cs m1 hfit
  split at hs
  · cases hs
  rename_i row hrow
  split at hs
  case isFalse => cases hs
  rename_i hle
  injection hs with hs
  subst hs
  -- the values as they lie there
  obtain ⟨_, hnd0⟩ : ∃ nd, gr.nl = nd := ⟨_, rfl⟩
  have hkey : ∃ G1 gr1, At P B0 w0 G1 k nl m1 w ∧ GLe (k + 1) s.loops.length G G1 ∧ m1.loops = s.loops ∧ cs.length = n ∧ G1.acts[d]? = some gr1 ∧ gr1.bl[b]? = some blk ∧ (∀ i (hi : i < cs.length) (hj : i < v.cells.toList.length), Rel G1 d gr1.nl cs[i] v.cells.toList[i]) ∧ ∀ c, c ∈ cs → c.isCell = true := by
    have hpt : ∀ i (hi : i < y.cells.length) (hj : i < v.cells.toList.length), Rel G k nl y.cells[i] v.cells.toList[i] ∧ y.cells[i].isCell = true := fun i hi hj => by
      have := hcells i hi
      have he : v.cells.getD i Go.undef = v.cells.toList[i] := by
        have : i < v.cells.size := by simpa using hj
        simp [Array.getD, this]
      rw [he] at this
      exact ⟨this, hcell _ (List.getElem_mem hi)⟩
    by_cases hdc : d = s.cur
    · rw [if_pos hdc] at hfit
      injection hfit with hfit
      injection hfit with e1 e2
      subst e1 e2
      have hdk : d = k := by rw [h.cur_eq] at hdc; exact hdc
      subst hdk
      obtain ⟨gc, hgc, hgn⟩ := h.cur
      rw [hg] at hgc
      injection hgc with hgc
      subst hgc
      exact ⟨G, gr, h, GLe.refl _ _ _, rfl, hlen, hg, hbl, fun i hi hj => by rw [hgn]; exact (hpt i hi hj).1, hcell⟩
    · rw [if_neg hdc] at hfit
      have hdk : d < k := by rw [h.cur_eq] at hdc; omega
      obtain ⟨G1, a1, a2, a3, a4, a5⟩ := fitAll_sound (nd := gr.nl) (vs := v.cells.toList) hdk h (by simpa using hsz) hpt (fun g e => by rw [hg] at e; injection e with e; rw [e]) hfit
      obtain ⟨gr1, hg1, hle1, _⟩ := a2.acts d gr (by omega) hg
      refine ⟨G1, gr1, a1, a2, a3, a4.trans hlen, hg1, hle1.bl _ _ hbl, fun i hi hj => ?_, fun c hc => ?_⟩
      · rw [hle1.nl]
        exact (a5 i hi hj).1
      · obtain ⟨i, hi, rfl⟩ := List.getElem_of_mem hc
        exact (a5 i hi (by simp [hvsz, ← hlen, ← a4, hi])).2
  obtain ⟨G1, gr1, hat1, hle1, hl1, hcl, hg1, hbl1, hRs, hcs⟩ := hkey
  obtain ⟨r, hr, hbx, hbrel, arr, ty, hheap, _, hrowcell⟩ := hat1.box hd hrow hg1 hbl1
  obtain ⟨bb1, bb2, bb3, arr', ty', hheap', harr, hold⟩ := hbrel
  rw [hheap] at hheap'
  injection hheap' with hheap'
  injection hheap' with e1 e2
  subst e1 e2
  refine ⟨_, store_run hheap hn hvsz (by rw [harr]; exact hle) hone, ?_⟩
  have hRow : Row2 (Rel G1 d gr1.nl) row arr := ⟨harr, fun i hi => (hold i hi).2⟩
  have hRow' : Row2 (Rel G1 d gr1.nl) (setCells row off cs) (setA arr off v.cells.toList) := Row2.setA (by simp [hvsz, hcl]) hRs off hRow
  have hsr := hat1.rel.setBox (cs' := setCells row off cs) (w' := w.setCells blk off v.cells.toList) hr hg1 hbx hbl1 (fun c hc => by
      rcases setCells_mem hc with h | h
      · exact hrowcell c h
      · exact hcs c h) hRow' (heap_setCells _ _ _ _ hheap) (fun c hc => heap_setCells_other hc _ _ _) (below_setCells bb1 _ _ _) (size_setCells _ _ _ _)
  refine ⟨G1, hat1.to hsr (GLe.refl _ _ _) (by simp [Sig.setBox, Sig.onRec]), hle1, by simp [Sig.setBox, Sig.onRec, hl1], .undef⟩

end
end Go.Ax
