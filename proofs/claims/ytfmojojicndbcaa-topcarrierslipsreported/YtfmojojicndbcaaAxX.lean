/-
  Calls.
-/
import Derived.Test.YtfmojojicndbcaaAxW
namespace Go.Ax
open Go.RowKit

/-- A function that is not walked: what it gives. -/
def PrimOk (P : Program) (f : FuncId) (F : List AV → Option AV) : Prop :=
  ∀ (I : IMap) (w : World) (as : List AV) (xs : Array Value) (r : AV), (∀ b i v, I b i = some v → w.cell? ⟨b, i, none⟩ = some v) → xs.size = as.length → (∀ i (hi : i < as.length), RelC I as[i] (xs.getD i Go.undef)) → F as = some r →
    Calls P f xs w fun e w' => ∃ z I', e = .returned z ∧ (∀ b i v, I b i = some v → I' b i = some v) ∧ (∀ b i v, I' b i = some v → I b i = some v ∨ w.heap.size ≤ b) ∧ (∀ b i v, I' b i = some v → w'.cell? ⟨b, i, none⟩ = some v) ∧
      Below w.heap.size w w' ∧ RelC I' r z

structure ProgOk (P : Program) (AP : FuncId → Option AFn) : Prop where
  mixed : P.follows .mixedOrders = true
  code : ∀ f np nt b rs own, AP f = some (.code np nt b rs own) → ∃ fn, P.funcs[f]? = some fn ∧ compFn P own fn = some (.code np nt b rs own)
  prim : ∀ f F, AP f = some (.prim F) → HasBody P f ∧ PrimOk P f F

theorem compFn_spec {P : Program} {own own' : Bool} {fn : Func} {np nt : Nat} {b : ACode} {rs : List ARes} (h : compFn P own fn = some (.code np nt b rs own')) :
    ∃ c, fn.body = some c ∧ (fn.name == "runtime.NumGoroutine") = false ∧ comp P c = some b ∧ mapO (compRes P) fn.results.toList = some rs ∧ np ≤ fn.ntmps ∧ tmpsOk fn.ntmps b = true ∧ own' = own := by
  unfold compFn at h
  split at h
  · cases h
  · rename_i hname
    split at h
    · cases h
    · rename_i c hb
      split at h
      · rename_i b' rs' e1 e2
        split at h
        · rename_i hcond
          injection h with h
          injection h with h1 h2 h3 h4 h5
          subst h1 h2 h3 h4 h5
          exact ⟨c, hb, by simpa using hname, e1, e2, hcond.1, hcond.2, rfl⟩
        · cases h
      · cases h

section
variable {P : Program} {B0 : Nat} {w0 : World} {G : Ghost} {k nl : Nat} {w : World} {s : Sig}

/-- The marks are taken one by one. -/
theorem leaves_marks {G : Ghost} {n : Nat} {fn : Func} {tmps : Array Value} {R : Ending → World → Prop} : ∀ (bs : List Nat) (w : World), At P B0 w0 G k nl s w → (∀ b, b ∈ bs → B0 ≤ b ∧ G.own b = none ∧ w.heap[b]? = some (.deferred (some []))) → bs.Nodup →
    (∀ w', At P B0 w0 G k nl s w' → ∃ v, (results fn tmps).run P w' = .ok v w' ∧ R (.returned v) w') → LeavesInM Fence.wide n P fn tmps R (bs.map fun b => (⟨.collected b, #[]⟩ : Deferred)) .returning w
  | [], w, h, _, _, hR => hR w h
  | b :: r, w, h, hb, hn, hR => by
    obtain ⟨h1, h2, h3⟩ := hb b (by simp)
    have hn' := List.nodup_cons.1 hn
    refine ⟨by simp, .inl ⟨b, w.putObj b (.deferred none), rfl, run_takeDeferred h3, ?_⟩⟩
    refine leaves_marks r _ (putMark h h1 h2 h3 (fun a t f e => by cases e)) (fun c hc => ?_) hn'.2 hR
    obtain ⟨c1, c2, c3⟩ := hb c (by simp [hc])
    refine ⟨c1, c2, ?_⟩
    rw [World.putObj_heap_other (fun e => hn'.1 (by rw [← e]; exact hc))]
    exact c3

theorem marks_nodup (h : SRel P B0 w0 G s w) {r : Rec} {gr : GRec} {d : Nat} (hr : s.acts[d]? = some r) (hg : G.acts[d]? = some gr) : gr.marks.Nodup := by
  rw [List.nodup_iff_pairwise_ne, List.pairwise_iff_getElem]
  intro i j hi hj hlt e
  have h1 := ((h.rec_ d r gr hr hg).mark i _ (List.getElem?_eq_getElem hi)).2.1
  have h2 := ((h.rec_ d r gr hr hg).mark j _ (List.getElem?_eq_getElem hj)).2.1
  rw [e, h2] at h1
  injection h1 with h1
  injection h1 with _ h1
  omega

theorem argsT_get : ∀ (args : List AV) (t : Nat), argsT args t = if h : t < args.length then args[t] else AV.undef
  | [], t => by simp [argsT]
  | x :: r, 0 => by simp [argsT]
  | x :: r, t + 1 => by
    simp only [argsT, argsT_get r t, List.length_cons, List.getElem_cons_succ]
    split <;> split <;> first | rfl | omega

theorem callTo_of (h : SRel P B0 w0 G s w) {kc nlc : Nat} {G1 G2 : Ghost} {s' : Sig} {w' : World} {x : AV} {z : Value} (hk : s.acts.length ≤ kc + 1) (h1 : GLe s.acts.length s.loops.length (G.pushA s.loops.length) G1) (h2 : SRel P B0 w0 G2 s' w') (h3 : s'.acts.length = s.acts.length)
    (h4 : s'.loops.length = s.loops.length) (h5 : ∀ b i v, G1.I b i = some v → G2.I b i = some v) (h6 : ∀ d gr, d < s.acts.length → G1.acts[d]? = some gr → ∃ gr', G2.acts[d]? = some gr' ∧ RecLe gr gr' ∧ gr'.marks = gr.marks)
    (h7 : ∀ l r : Nat, G1.loops[l]? = some r → G2.loops[l]? = some r) (h8 : Rel G2 kc nlc x z) : CallTo P B0 w0 G kc nlc s s' w' x z := by
  refine ⟨G2, h2, h3, h4, ⟨fun b i v e => h5 b i v (h1.I b i v e), fun d gr hd e => ?_, fun l r hl e => h7 l r (h1.loops l r hl e)⟩, h8⟩
  have hlt : d < s.acts.length := by have := (List.getElem?_eq_some_iff.1 e).1; rw [h.len] at this; exact this
  obtain ⟨g1, a1, a2, a3⟩ := h1.acts d gr (by omega) (get_old e)
  obtain ⟨g2, b1, b2, b3⟩ := h6 d g1 hlt a1
  exact ⟨g2, b1, a2.trans b2, fun _ => b3.trans (a3 hlt)⟩

theorem code_sound {AP : FuncId → Option AFn} (hp : ProgOk P AP) {call : CallF} (hcall : CallSound P B0 w0 call) (hro : RoOk call) {lf : Nat} {kc nlc : Nat} {f : FuncId} {np nt : Nat} {b : ACode} {rs : List ARes} {own : Bool} {args : List AV} {xs : Array Value} {x : AV} {s' : Sig}
    (hap : AP f = some (.code np nt b rs own)) (h : SRel P B0 w0 G s w) (hk1 : s.acts.length ≤ kc + 1) (hk2 : kc ≤ s.acts.length) (hnl : nlc ≤ s.loops.length) (hl : xs.size = args.length) (hR : ∀ i (hi : i < args.length), Rel G kc nlc args[i] (xs.getD i Go.undef))
    {e : AExit} {st : St} (hlen : args.length = np) (he : exec call lf b ⟨argsT args, s.push ⟨[], []⟩⟩ = some (e, st)) (hn : e = .normal ∨ e = .ret) (hf : finish rs own st = some (x, s')) :
    HasBody P f ∧ Calls P f xs w fun e w' => ∃ z, e = .returned z ∧ CallTo P B0 w0 G kc nlc s s' w' x z := by
  obtain ⟨fn, hfn, hcf⟩ := hp.code f np nt b rs own hap
  obtain ⟨c, hb, hname, hcomp, hres, hnp, htm, _⟩ := compFn_spec hcf
  refine ⟨⟨fn, c, hfn, hb, hname⟩, ?_⟩
  refine (callsIn_wide (n := 0)).1 ?_
  have hat := push_sound h
  have hG0 := G.pushA_le s.loops.length
  have hsz : (xs ++ Array.replicate (fn.ntmps - xs.size) Go.undef).size = fn.ntmps := by simp; omega
  refine callsIn_of_wp_marks hfn hb trivial (wpIn_mono (exec_sound (rd := none) (n := 0) (lf := lf) hcall hro hp.mixed c b (G.pushA s.loops.length) ⟨argsT args, s.push ⟨[], []⟩⟩ st ⟨xs ++ Array.replicate (fn.ntmps - xs.size) Go.undef, []⟩ w e hcomp hat rfl (fun t => ?_) (by rw [hsz]; exact htm)
    (fun r e => by cases e) (fun _ => ⟨⟨[], [], s.loops.length, []⟩, by simp [Ghost.pushA, ← h.len], rfl⟩) he) fun ex a' w' hpost => ?_)
  · show Rel _ _ _ (argsT args t) ((xs ++ Array.replicate (fn.ntmps - xs.size) Go.undef).getD t Go.undef)
    rw [argsT_get, getD_append]
    split
    · rename_i ht
      rw [if_pos (by omega)]
      exact (hR t ht).mono (hG0 _ _) hk2 hnl
    · rename_i ht
      rw [if_neg (by omega)]
      have : (Array.replicate (fn.ntmps - xs.size) Go.undef).getD (t - xs.size) Go.undef = Go.undef := by
        by_cases hq : t - xs.size < fn.ntmps - xs.size
        · simp [Array.getD, hq]
        · simp [Array.getD, hq]
      rw [this]
      exact .undef
  · obtain ⟨hex, G1, g1, g2, g3, g4, g5, g6⟩ := hpost
    have hex' : ex = .normal ∨ ex = .ret := by rcases hn with rfl | rfl <;> simp [hex, exitOf]
    obtain ⟨r, gr, hr, hg⟩ := g1.rec_ (Nat.le_refl _)
    obtain ⟨gr', e1, e2⟩ := g6 rfl
    rw [hg] at e1
    injection e1 with e1
    subst e1
    have hleave : LeavesInM Fence.wide 0 P fn a'.tmps (fun e w' => ∃ z, e = .returned z ∧ CallTo P B0 w0 G kc nlc s s' w' x z) a'.defers .returning w' := by
      rw [e2, ← List.map_reverse]
      refine leaves_marks (G := G1.dropMarks s.acts.length) gr.marks.reverse w' (dropMarks_sound g1) (fun m hm => ?_) ((List.reverse_perm _).nodup_iff.2 (marks_nodup g1.rel hr hg)) (fun w'' hat2 => ?_)
      · obtain ⟨i, hi, rfl⟩ := List.getElem_of_mem (List.mem_reverse.1 hm)
        have hmk := (g1.rel.rec_ _ r gr hr hg).mark i _ (List.getElem?_eq_getElem hi)
        refine ⟨hmk.1, ?_, hmk.2.2⟩
        simp only [Ghost.dropMarks, hmk.2.1, if_pos]
      · have hdl := G1.dropMarks_le s.acts.length s.loops.length (Nat.le_refl _)
        obtain ⟨z, G2, q1, q2, q3, q4, q5, q6, q7, q8⟩ := finish_sound hat2 (a := a') (g4.mono hdl) g3 hres (kc := kc) (nlc := nlc) hk1 hf
        refine ⟨z, q1, z, rfl, callTo_of h hk1 (g2.trans hdl) q2 q3 (by rw [q4]; exact g3) q5 q6 q7 q8⟩
    rcases hex' with rfl | rfl
    · exact hleave
    · exact hleave

theorem prim_sound {AP : FuncId → Option AFn} (hp : ProgOk P AP) {kc nlc : Nat} {f : FuncId} {F : List AV → Option AV} {args : List AV} {xs : Array Value} {x : AV} {s' : Sig}
    (hap : AP f = some (.prim F)) (h : SRel P B0 w0 G s w) (hl : xs.size = args.length) (hR : ∀ i (hi : i < args.length), Rel G kc nlc args[i] (xs.getD i Go.undef)) (hc : ((closeAll args).bind fun as => (F as).map (·, s)) = some (x, s')) :
    HasBody P f ∧ Calls P f xs w fun e w' => ∃ z, e = .returned z ∧ CallTo P B0 w0 G kc nlc s s' w' x z := by
  obtain ⟨hb, hprim⟩ := hp.prim f F hap
  refine ⟨hb, ?_⟩
  obtain ⟨as, has, hc⟩ := Option.bind_eq_some_iff.1 hc
  obtain ⟨y, hy, hc⟩ := Option.map_eq_some_iff.1 hc
  injection hc with h1 h2
  subst h1 h2
  obtain ⟨c1, c2⟩ := closeAll_spec has
  refine Calls.mono (hprim G.I w as xs y h.imm (by rw [hl, c1]) (fun i hi => (hR i (by omega)).close (c2 i (by omega) hi)) hy) fun e w' hq => ?_
  obtain ⟨z, I', rfl, i1, i2, i3, i4, i5⟩ := hq
  refine ⟨z, rfl, { G with I := I' }, ?_, rfl, rfl, ⟨i1, fun d gr _ e => ⟨gr, e, .refl gr, fun _ => rfl⟩, fun _ _ _ e => e⟩, .cl i5⟩
  refine h.keep i1 rfl rfl (fun b o e _ => ⟨e, i4.block b (h.ownlt b o e), fun i hi => ?_⟩) i3 (i4.mono h.low) (fun b o e => Nat.lt_of_lt_of_le (h.ownlt b o e) i4.size)
  show I' b i = none
  cases hv : I' b i with
  | none => rfl
  | some v =>
    rcases i2 b i v hv with hv' | hv'
    · rw [hi] at hv'; cases hv'
    · have := h.ownlt b o e; omega

theorem setParams_rel : ∀ (ps : List Nat) (args : List AV) (vs : List Value) (ρ : Nat → AV) (t : Array Value), args.length = ps.length → vs.length = ps.length → (∀ p, p ∈ ps → p < t.size) → (∀ i (hi : i < args.length) (hj : i < vs.length), Rel G k nl args[i] vs[i]) →
    (∀ u, Rel G k nl (ρ u) (t.getD u Go.undef)) → (∀ u, Rel G k nl (setParams ρ ps args u) (((ps.zip vs).foldl (fun (t : Array Value) (q : Nat × Value) => t.setIfInBounds q.1 q.2) t).getD u Go.undef)) ∧ ((ps.zip vs).foldl (fun (t : Array Value) (q : Nat × Value) => t.setIfInBounds q.1 q.2) t).size = t.size
  | [], args, vs, ρ, t, h1, h2, hp, hR, ht => by
    cases args with
    | nil => exact ⟨by simpa [setParams] using ht, by simp⟩
    | cons => simp at h1
  | p :: ps, [], vs, ρ, t, h1, h2, hp, hR, ht => by simp at h1
  | p :: ps, a :: args, [], ρ, t, h1, h2, hp, hR, ht => by simp at h2
  | p :: ps, a :: args, v :: vs, ρ, t, h1, h2, hp, hR, ht => by
    have h0 : Rel G k nl a v := hR 0 (by simp) (by simp)
    have hput : ∀ u, Rel G k nl (put p a ρ u) ((t.setIfInBounds p v).getD u Go.undef) := by
      have := TmpsRel.put (a := ⟨t, []⟩) (dst := some p) (fun u => ht u) (fun q e => by injection e with e; subst e; exact hp p (by simp)) h0
      exact fun u => this u
    obtain ⟨i1, i2⟩ := setParams_rel ps args vs (put p a ρ) (t.setIfInBounds p v) (by simpa using h1) (by simpa using h2) (fun q hq => by simp; exact hp q (by simp [hq])) (fun i hi hj => hR (i + 1) (by simpa using hi) (by simpa using hj)) hput
    exact ⟨i1, by rw [List.zip_cons_cons, List.foldl_cons, i2]; simp⟩

theorem LoopObj.upd {l : Nat} {lp lp' : ALoop} {rc rc' : Loop} (h : LoopObj P G l lp rc) (h1 : rc'.params = rc.params) (h2 : rc'.assign = rc.assign) (h3 : rc'.body = rc.body) (h4 : rc'.tmps = rc.tmps) (g1 : lp'.params = lp.params) (g2 : lp'.assign = lp.assign) (g3 : lp'.body = lp.body)
    (g4 : lp'.tmps = lp.tmps) (a1 : lp'.ready = true → rc'.state = .ready ∧ lp'.pend = none) (a2 : lp'.ready = false → rc'.state = (if lp'.pend.isSome then .done else .busy)) (a3 : rc'.pending = lp'.pend.bind exitCode) (a4 : lp'.pend ≠ some .normal) : LoopObj P G l lp' rc' := by
  obtain ⟨_, _, _, _, b5, b6, b7, b8, b9, b10, k, nl, b11, b12, b14, b13⟩ := h
  exact ⟨a1, a2, a3, a4, by rw [h1, g1]; exact b5, by rw [h2, g2]; exact b6, by rw [h3, g3]; exact b7, by rw [h4, g2]; exact b8, by rw [h4, g3]; exact b9, by rw [h4, g1]; exact b10, k, nl, b11, b12, b14, by rw [h4, g4]; exact b13⟩

theorem At.loopAt (h : At P B0 w0 G k nl s w) (hll : s.loops.length = nl) {l r : Nat} (hl : l < nl) (hr : G.loops[l]? = some r) : ∃ lp rc, s.loops[l]? = some lp ∧ w.heap[r]? = some (.loop rc) ∧ LoopObj P G l lp rc := by
  have hlt : l < s.loops.length := by omega
  obtain ⟨_, _, rc, h3, h4⟩ := h.rel.loop l _ r (List.getElem?_eq_getElem hlt) hr
  exact ⟨_, rc, List.getElem?_eq_getElem hlt, h3, h4⟩

/-- A record that is turned, in the present activation. -/
theorem At.turn (h : At P B0 w0 G k nl s w) {l r : Nat} {lp lp' : ALoop} {rc rc' : Loop} (hl : s.loops[l]? = some lp) (hr : G.loops[l]? = some r) (hrc : w.heap[r]? = some (.loop rc)) {f : ALoop → ALoop} (hf : f lp = lp') (ho : LoopObj P G l lp' rc') :
    At P B0 w0 G k nl (setLoop s l f) (w.putObj r (.loop rc')) :=
  ⟨setLoop_sound h.rel hl hr hrc hf ho, h.len, h.cur⟩

theorem yield_sound {AP : FuncId → Option AFn} (hp : ProgOk P AP) {call : CallF} (hcall : CallSound P B0 w0 call) (hro : RoOk call) {lf : Nat} {kc nlc l r : Nat} {args : List AV} {xs : Array Value} {x : AV} {s' : Sig}
    (h : SRel P B0 w0 G s w) (hk1 : s.acts.length ≤ kc + 1) (hk2 : kc ≤ s.acts.length) (hnl : nlc ≤ s.loops.length) (hlt : l < nlc) (hgl : G.loops[l]? = some r) (hl : xs.size = args.length) (hR : ∀ i (hi : i < args.length), Rel G kc nlc args[i] (xs.getD i Go.undef))
    (hc : callStep AP call lf (.yield l) args s = some (x, s')) :
    ∃ rc : Loop, w.heap[r]? = some (.loop rc) ∧ xs.size = rc.params.size ∧ ∀ n, RoundIn Fence.wide n P r rc.fn ((rc.params.zip xs).foldl (fun tmps (t, a) => tmps.setIfInBounds t a) rc.tmps) rc.assign rc.body w
      fun e w' => ∃ z, e = .returned z ∧ CallTo P B0 w0 G kc nlc s s' w' x z := by
  unfold callStep at hc
  simp only at hc
  split at hc
  case h_2 => cases hc
  rename_i lp hlp
  split at hc
  case isFalse => cases hc
  rename_i hcond
  obtain ⟨hready, _, hargs⟩ := hcond
  split at hc
  case h_2 => cases hc
  rename_i st hassign
  split at hc
  case isFalse => cases hc
  rename_i hrd2
  obtain ⟨_, _, rc, hrc, hobj⟩ := h.loop l lp r hlp hgl
  obtain ⟨o1, o2, o3, o4, o5, o6, o7, o8, o9, o10, k', nl', o11, o12, o14, o13⟩ := hobj
  have hpl : rc.params.size = lp.params.length := by rw [← o5]; simp
  refine ⟨rc, hrc, by rw [hl, hargs, hpl], fun n => ?_⟩
  have hat := push_sound h
  have hG0 := G.pushA_le s.loops.length
  have hlts : l < s.loops.length := by omega
  have hgl0 : (G.pushA s.loops.length).loops[l]? = some r := hgl
  have hround : RoundAt (some r) (G.pushA s.loops.length) s.loops.length := fun r' e => by injection e with e; subst e; exact ⟨l, hlts, hgl0⟩
  have hfold : (rc.params.zip xs).foldl (fun (tmps : Array Value) (x : Tmp × Value) => match x with | (t, a) => tmps.setIfInBounds t a) rc.tmps = (lp.params.zip xs.toList).foldl (fun (t : Array Value) (q : Nat × Value) => t.setIfInBounds q.1 q.2) rc.tmps := by
    rw [← Array.foldl_toList, Array.toList_zip, o5]
  rw [hfold]
  obtain ⟨p1, p2⟩ := setParams_rel (G := G.pushA s.loops.length) (k := s.acts.length) (nl := s.loops.length) lp.params args xs.toList lp.tmps rc.tmps hargs (by simp [hl, hargs]) o10
    (fun i hi hj => by
      have := (hR i hi).mono (hG0 kc nlc) hk2 hnl
      have e : xs.getD i Go.undef = xs.toList[i] := by
        have : i < xs.size := by simpa using hj
        simp [Array.getD, this]
      rw [← e]
      exact this)
    (fun u => (o13 u).mono (hG0 k' nl') (by have := h.len; omega) (by omega))
  have hF : Fence.wide.fn rc.fn := trivial
  refine roundIn_of_wpIn hF (wpIn_mono (exec_sound (k := s.acts.length) (nl := s.loops.length) (rd := some r) (n := n) (lf := lf) hcall hro hp.mixed rc.assign lp.assign (G.pushA s.loops.length) ⟨setParams lp.tmps lp.params args, s.push ⟨[], []⟩⟩ st ⟨_, []⟩ w .normal o6 hat rfl p1 (by rw [p2]; exact o8) hround (fun e => by cases e) hassign) fun ex a1 w1 hpost => ?_)
  obtain ⟨rfl, G1, g1, g2, g3, g4, g5, _⟩ := hpost
  have hr1 : G1.loops[l]? = some r := g2.loops l r hlts hgl0
  obtain ⟨lp1, rc1, q1, q2, q3⟩ := g1.loopAt g3 hlts hr1
  have hrdy1 : lp1.ready = true := by simpa [loopReady, q1] using hrd2
  obtain ⟨s1, s2⟩ := q3.1 hrdy1
  have hpend1 : rc1.pending = none := by rw [q3.2.2.1, s2]; rfl
  show ∃ w₂, (Instr.beginRound r).run P w1 = .ok () w₂ ∧ _
  refine ⟨_, run_beginRound q2 s1, ?_⟩
  have hobj1 : LoopObj P G1 l { lp1 with ready := false } { rc1 with state := .busy } := q3.upd rfl rfl rfl rfl rfl rfl rfl rfl (fun e => by cases e) (fun _ => by simp [s2]) (by simp [hpend1, s2]) (by simp [s2])
  have hat1 := g1.turn q1 hr1 q2 (f := fun p => { p with ready := false }) rfl hobj1
  have hll1 : (setLoop st.sig l fun p => { p with ready := false }).loops.length = s.loops.length := by simp [setLoop, g3]
  -- the body
  have body : ∀ (e : AExit) (st' : St), exec call lf lp.body ⟨st.tmps, setLoop st.sig l fun p => { p with ready := false }⟩ = some (e, st') → (∀ (ex : Exit) (a' : Act) (w2 : World) (G2 : Ghost), ex = exitOf e → At P B0 w0 G2 s.acts.length s.loops.length st'.sig w2 → GLe s.acts.length s.loops.length (G.pushA s.loops.length) G2 →
      st'.sig.loops.length = s.loops.length → G2.loops[l]? = some r → roundPost P r (fun e w' => ∃ z, e = .returned z ∧ CallTo P B0 w0 G kc nlc s s' w' x z) ex a' w2) →
      rc.body.wpIn (Fence.wide.inRound r) n P (roundPost P r (fun e w' => ∃ z, e = .returned z ∧ CallTo P B0 w0 G kc nlc s s' w' x z)) a1 (w1.putObj r (.loop { rc1 with state := .busy })) := fun e st' hbody hq => by
    refine wpIn_mono (exec_sound (k := s.acts.length) (nl := s.loops.length) (rd := some r) (n := n) (lf := lf) hcall hro hp.mixed rc.body lp.body G1 ⟨st.tmps, setLoop st.sig l fun p => { p with ready := false }⟩ st' a1 _ e o7 hat1 hll1 g4 (by rw [g5]; rw [p2]; exact o9) (hround.mono g2) (fun e => by cases e) hbody) fun ex a2 w2 hpost => ?_
    obtain ⟨hex, G2, k1, k2, k3, k4, k5, _⟩ := hpost
    exact hq ex a2 w2 G2 hex k1 (g2.trans k2) k3 (k2.loops l r hlts hr1)
  -- the end of a round
  have fin : ∀ (G2 : Ghost) (st' : St) (w2 : World) (jump : Option Code) (f : ALoop → ALoop) (b : Bool), At P B0 w0 G2 s.acts.length s.loops.length st'.sig w2 → GLe s.acts.length s.loops.length (G.pushA s.loops.length) G2 → st'.sig.loops.length = s.loops.length → G2.loops[l]? = some r →
      (∀ lp2 rc2, LoopObj P G2 l lp2 rc2 → LoopObj P G2 l (f lp2) { rc2 with state := if jump.isNone then .ready else .done, pending := jump }) → jump.isNone = b → x = .v (.bool b) → s' = (setLoop st'.sig l f).pop →
      ∃ v w', (Instr.endRound r jump).run P w2 = .ok v w' ∧ ∃ z, (Ending.returned v) = .returned z ∧ CallTo P B0 w0 G kc nlc s s' w' x z := fun G2 st' w2 jump f b k1 k2 k3 k4 hf hb hx hs => by
    obtain ⟨lp2, rc2, m1, m2, m3⟩ := k1.loopAt k3 hlts k4
    have hat2 := k1.turn m1 k4 m2 (f := f) rfl (hf lp2 rc2 m3)
    have hll2 : (setLoop st'.sig l f).loops.length = s.loops.length := by simp [setLoop, k3]
    obtain ⟨gr, hg, _⟩ := hat2.cur
    obtain ⟨t1, t2, t3, t4⟩ := pop_sound hat2 hll2 hg
    refine ⟨_, _, run_endRound jump m2, _, rfl, ?_⟩
    subst hs hx hb
    exact callTo_of h hk1 k2 t1 (by simp [Sig.pop, hat2.len]) hll2 t2 (fun d q hd e => ⟨q, by rw [t4 d hd]; exact e, .refl q, rfl⟩) (fun _ _ e => e) (.val _ rfl)
  split at hc
  · rename_i st' hbody
    injection hc with hc
    injection hc with hx hs
    refine body .normal st' hbody fun ex a' w2 G2 hex k1 k2 k3 k4 => ?_
    subst hex
    exact fin G2 st' w2 none (fun p => { p with ready := true, pend := none }) true k1 k2 k3 k4 (fun lp2 rc2 m => m.upd rfl rfl rfl rfl rfl rfl rfl rfl (fun _ => ⟨rfl, rfl⟩) (fun e => by cases e) rfl (by simp)) rfl hx.symm hs.symm
  · rename_i e st' hne hbody
    injection hc with hc
    injection hc with hx hs
    refine body e st' hbody fun ex a' w2 G2 hex k1 k2 k3 k4 => ?_
    subst hex
    cases e with
    | normal => exact absurd rfl hne
    | exit id => exact fin G2 st' w2 (some (.exit id)) (fun p => { p with ready := false, pend := some (.exit id) }) false k1 k2 k3 k4 (fun lp2 rc2 m => m.upd rfl rfl rfl rfl rfl rfl rfl rfl (fun e => by cases e) (fun _ => rfl) rfl (by simp)) rfl hx.symm hs.symm
    | ret => exact fin G2 st' w2 (some .ret) (fun p => { p with ready := false, pend := some .ret }) false k1 k2 k3 k4 (fun lp2 rc2 m => m.upd rfl rfl rfl rfl rfl rfl rfl rfl (fun e => by cases e) (fun _ => rfl) rfl (by simp)) rfl hx.symm hs.symm
  · cases hc

theorem callStep_sound {AP : FuncId → Option AFn} (hp : ProgOk P AP) {call : CallF} (hcall : CallSound P B0 w0 call) (hro : RoOk call) (lf : Nat) : CallSound P B0 w0 (callStep AP call lf) := by
  refine ⟨fun G k nl s w f args xs res s' h hk1 hk2 hnl hl hR hc => ?_, fun G k nl s w l r args xs res s' h hk1 hk2 hnl hlt hgl hl hR hc => yield_sound hp hcall hro h hk1 hk2 hnl hlt hgl hl hR hc⟩
  unfold callStep at hc
  simp only at hc
  split at hc
  · rename_i np nt b rs own hap
    split at hc
    · rename_i hlen
      split at hc
      · rename_i st he
        exact code_sound hp hcall hro hap h hk1 hk2 hnl hl hR hlen he (.inl rfl) hc
      · rename_i st he
        exact code_sound hp hcall hro hap h hk1 hk2 hnl hl hR hlen he (.inr rfl) hc
      · cases hc
    · cases hc
  · rename_i F hap
    exact prim_sound hp hap h hl hR hc
  · cases hc

theorem callN_sound {AP : FuncId → Option AFn} (hp : ProgOk P AP) : ∀ n, CallSound P B0 w0 (callN AP n) ∧ RoOk (callN AP n)
  | 0 => ⟨⟨fun _ _ _ _ _ _ _ _ _ _ _ _ _ _ _ _ h => by simp [callN] at h, fun _ _ _ _ _ _ _ _ _ _ _ _ _ _ _ _ _ _ _ h => by simp [callN] at h⟩, fun _ _ _ _ _ _ _ h => by simp [callN] at h⟩
  | n + 1 => ⟨callStep_sound hp (callN_sound hp n).1 (callN_sound hp n).2 n, RoOk.step (callN_sound hp n).2 n⟩

end
end Go.Ax
