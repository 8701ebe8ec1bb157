/-
  Calls.
-/
import Derived.Test.YtehlallciamkoaaT7
import Derived.Test.YtehlallciamkoaaT1
import Derived.Deep.Slices
import Derived.OpenShut
import Derived.SizedLaws
namespace Go.Ax
open Go.RowKit
def PrimOk (P : Program) (K : World → Prop) (f : FuncId) (F : List AV → Option AV) : Prop :=
 ∀ (I : IMap) (w : World) (as : List AV) (xs : Array Value) (r : AV), K w → (∀ b i v, I b i = some v → w.cell? ⟨b, i, none⟩ = some v) → xs.size = as.length → (∀ i (hi : i < as.length), RelC I as[i] (xs.getD i Go.undef)) → F as = some r →
  Calls P f xs w fun e w' => ∃ z I', e = .returned z ∧ (∀ b i v, I b i = some v → I' b i = some v) ∧ (∀ b i v, I' b i = some v → I b i = some v ∨ w.heap.size ≤ b) ∧ (∀ b i v, I' b i = some v → w'.cell? ⟨b, i, none⟩ = some v) ∧
   Below w.heap.size w w' ∧ RelN I' r z
def NatOk (P : Program) (f : FuncId) (F : List AV → Option AV) : Prop :=
 ∀ (I : IMap) (w : World) (as : List AV) (xs : Array Value) (r : AV), xs.size = as.length → (∀ i (hi : i < as.length), RelC I as[i] (xs.getD i Go.undef)) → F as = some r →
  ∃ z, (callFunc f xs).run P w = .ok (.value z) w ∧ RelN I r z
structure ProgOk (P : Program) (AP : FuncId → Option AFn) (K : World → Prop) : Prop where
 mixed : P.follows .mixedOrders = true
 code : ∀ f np nt b rs own, AP f = some (.code np nt b rs own) → ∃ fn mu, P.funcs[f]? = some fn ∧ compFn P own mu fn = some (.code np nt b rs own)
 prim : ∀ f F, AP f = some (.prim F) → HasBody P f ∧ PrimOk P K f F
 nat : ∀ f F, AP f = some (.nat F) → NatOk P f F
theorem compFn_spec {P : Program} {own own' : Bool} {mu : Mu} {fn : Func} {np nt : Nat} {b : ACode} {rs : List ARes} (h : compFn P own mu fn = some (.code np nt b rs own')) :
  ∃ c, fn.body = some c ∧ (fn.name == "runtime.NumGoroutine") = false ∧ comp P mu c = some b ∧ mapO (compRes P) fn.results.toList = some rs ∧ np ≤ fn.ntmps ∧ tmpsOk fn.ntmps b = true ∧ own' = own := by
 unfold compFn at h
 split at h
 ·cases h
 ·rename_i hname
  split at h
  ·cases h
  ·rename_i c hb
   split at h
   ·rename_i b' rs' e1 e2
    split at h
    ·rename_i hcond
     injection h with h
     injection h with h1 h2 h3 h4 h5
     subst h1 h2 h3 h4 h5
     exact ⟨c, hb, by simpa using hname, e1, e2, hcond.1, hcond.2, rfl⟩
    ·cases h
   ·cases h
section
variable {P : Program} {B0 : Nat} {w0 : World} {G : Ghost} {k nl : Nat} {w : World} {s : Sig}
theorem leaves_marks {G : Ghost} {n : Nat} {fn : Func} {tmps : Array Value} {R : Ending → World → Prop} : ∀ (bs : List Nat) (w : World), At P B0 w0 G k nl s w → (∀ b, b ∈ bs → B0 ≤ b ∧ G.own b = none ∧ w.heap[b]? = some (.deferred (some []))) → bs.Nodup →
  (∀ w', At P B0 w0 G k nl s w' → ∃ v, (results fn tmps).run P w' = .ok v w' ∧ R (.returned v) w') → LeavesInM Fence.wide n P fn tmps R (bs.map fun b => (⟨.collected b, #[]⟩ : Deferred)) .returning w
 | [], w, h, _, _, hR => hR w h
 | b :: r, w, h, hb, hn, hR => by
  obtain ⟨h1, h2, h3⟩ := hb b (by simp)
  have hn' := List.nodup_cons.1 hn
  refine ⟨by simp, .inl ⟨b, w.putObj b (.deferred none), rfl, run_takeDeferred h3, ?_⟩⟩
  refine leaves_marks r _ (putMark h h1 h2 h3 (fun a t f e => by cases e)) (fun c hc => ?_) hn'.2 hR
  obtain ⟨c1, c2, c3⟩ := hb c (by simp [hc])
  refine ⟨c1, c2, ?_⟩
  rw [World.putObj_heap_other (fun e => hn'.1 (by rw [← e]; exact hc))]
  exact c3
theorem marks_nodup (h : SRel P B0 w0 G s w) {r : Rec} {gr : GRec} {d : Nat} (hr : s.acts[d]? = some r) (hg : G.acts[d]? = some gr) : gr.marks.Nodup := by
 rw [List.nodup_iff_pairwise_ne, List.pairwise_iff_getElem]
 intro i j hi hj hlt e
 have h1 := ((h.rec_ d r gr hr hg).mark i _ (List.getElem?_eq_getElem hi)).2.1
 have h2 := ((h.rec_ d r gr hr hg).mark j _ (List.getElem?_eq_getElem hj)).2.1
 rw [e, h2] at h1
 injection h1 with h1
 injection h1 with _ h1
 omega
theorem argsT_get : ∀ (args : List AV) (t : Nat), argsT args t = if h : t < args.length then args[t] else AV.undef
 | [], t => by simp [argsT]
 | x :: r, 0 => by simp [argsT]
 | x :: r, t + 1 => by
  simp only [argsT, argsT_get r t, List.length_cons, List.getElem_cons_succ]
  split <;> split <;> first | rfl | omega
theorem callTo_of (h : SRel P B0 w0 G s w) {kc nlc : Nat} {G1 G2 : Ghost} {s' : Sig} {w' : World} {x : AV} {z : Value} (hk : s.acts.length ≤ kc + 1) (h1 : GLe s.acts.length s.loops.length (G.pushA s.loops.length) G1) (h2 : SRel P B0 w0 G2 s' w') (h3 : s'.acts.length = s.acts.length)
  (h4 : s'.loops.length = s.loops.length) (h5 : ∀ b i v, G1.I b i = some v → G2.I b i = some v) (h6 : ∀ d gr, d < s.acts.length → G1.acts[d]? = some gr → ∃ gr', G2.acts[d]? = some gr' ∧ RecLe gr gr' ∧ gr'.marks = gr.marks)
  (h7 : ∀ l r : Nat, G1.loops[l]? = some r → G2.loops[l]? = some r) (h8 : Rel G2 kc nlc x z) : CallTo P B0 w0 G kc nlc s s' w' x z := by
 refine ⟨G2, h2, h3, h4, ⟨fun b i v e => h5 b i v (h1.I b i v e), fun d gr hd e => ?_, fun l r hl e => h7 l r (h1.loops l r hl e)⟩, h8⟩
 have hlt : d < s.acts.length := by have := (List.getElem?_eq_some_iff.1 e).1; rw [h.len] at this; exact this
 obtain ⟨g1, a1, a2, a3⟩ := h1.acts d gr (by omega) (get_old e)
 obtain ⟨g2, b1, b2, b3⟩ := h6 d g1 hlt a1
 exact ⟨g2, b1, a2.trans b2, fun _ => b3.trans (a3 hlt)⟩
theorem code_sound {AP : FuncId → Option AFn} {K : World → Prop} (hp : ProgOk P AP K) {call : CallF} (hcall : CallSound P B0 w0 call) (hhere : HereSound P B0 w0 call) (hro : RoOk call) {lf : Nat} {kc nlc : Nat} {f : FuncId} {np nt : Nat} {b : ACode} {rs : List ARes} {own : Bool} {args : List AV} {xs : Array Value} {x : AV} {s' : Sig}
  (hap : AP f = some (.code np nt b rs own)) (h : SRel P B0 w0 G s w) (hk1 : s.acts.length ≤ kc + 1) (hk2 : kc ≤ s.acts.length) (hnl : nlc ≤ s.loops.length) (hl : xs.size = args.length) (hR : ∀ i (hi : i < args.length), Rel G kc nlc args[i] (xs.getD i Go.undef))
  {e : AExit} {st : St} (hlen : args.length = np) (he : exec call lf b ⟨argsT args, s.push ⟨[], []⟩⟩ = some (e, st)) (hn : e = .normal ∨ e = .ret) (hf : finish rs own st = some (x, s')) :
  HasBody P f ∧ Calls P f xs w fun e w' => ∃ z, e = .returned z ∧ CallTo P B0 w0 G kc nlc s s' w' x z := by
 obtain ⟨fn, mu, hfn, hcf⟩ := hp.code f np nt b rs own hap
 obtain ⟨c, hb, hname, hcomp, hres, hnp, htm, _⟩ := compFn_spec hcf
 refine ⟨⟨fn, c, hfn, hb, hname⟩, ?_⟩
 refine (callsIn_wide (n := 0)).1 ?_
 have hat := push_sound h
 have hG0 := G.pushA_le s.loops.length
 have hsz : (xs ++ Array.replicate (fn.ntmps - xs.size) Go.undef).size = fn.ntmps := by simp; omega
 refine callsIn_of_wp_marks hfn hb trivial (wpIn_mono (exec_sound (rd := none) (n := 0) (lf := lf) (base := []) hcall hhere hro hp.mixed c b (G.pushA s.loops.length) ⟨argsT args, s.push ⟨[], []⟩⟩ st ⟨xs ++ Array.replicate (fn.ntmps - xs.size) Go.undef, []⟩ w e hcomp hat rfl (fun t => ?_) (by rw [hsz]; exact htm)
  (fun r e => by cases e) (fun _ => ⟨⟨[], [], s.loops.length, [], fun _ => none, fun _ => none⟩, [], by simp [Ghost.pushA, ← h.len], rfl, rfl⟩) he) fun ex a' w' hpost => ?_)
 ·show Rel _ _ _ (argsT args t) ((xs ++ Array.replicate (fn.ntmps - xs.size) Go.undef).getD t Go.undef)
  rw [argsT_get, getD_append]
  split
  ·rename_i ht
   rw [if_pos (by omega)]
   exact (hR t ht).mono (hG0 _ _) hk2 hnl
  ·rename_i ht
   rw [if_neg (by omega)]
   have : (Array.replicate (fn.ntmps - xs.size) Go.undef).getD (t - xs.size) Go.undef = Go.undef := by
    by_cases hq : t - xs.size < fn.ntmps - xs.size
    ·simp [Array.getD, hq]
    ·simp [Array.getD, hq]
   rw [this]
   exact .undef
 ·obtain ⟨hex, G1, g1, g2, g3, g4, g5, g6⟩ := hpost
  have hex' : ex = .normal ∨ ex = .ret := by rcases hn with rfl | rfl <;> simp [hex, exitOf]
  obtain ⟨r, gr, hr, hg⟩ := g1.rec_ (Nat.le_refl _)
  obtain ⟨gr', new, e1, e3, e2⟩ := g6 rfl
  rw [hg] at e1
  injection e1 with e1
  subst e1
  rw [List.nil_append] at e3
  rw [← e3] at e2
  have hleave : LeavesInM Fence.wide 0 P fn a'.tmps (fun e w' => ∃ z, e = .returned z ∧ CallTo P B0 w0 G kc nlc s s' w' x z) a'.defers .returning w' := by
   rw [e2, ← List.map_reverse]
   refine leaves_marks (G := G1.dropMarks s.acts.length 0) gr.marks.reverse w' (dropMarks_sound g1 0) (fun m hm => ?_) ((List.reverse_perm _).nodup_iff.2 (marks_nodup g1.rel hr hg)) (fun w'' hat2 => ?_)
   ·obtain ⟨i, hi, rfl⟩ := List.getElem_of_mem (List.mem_reverse.1 hm)
    have hmk := (g1.rel.rec_ _ r gr hr hg).mark i _ (List.getElem?_eq_getElem hi)
    refine ⟨hmk.1, ?_, hmk.2.2⟩
    simp [Ghost.dropMarks, hmk.2.1]
   ·have hdl := G1.dropMarks_le s.acts.length s.loops.length 0 (Nat.le_refl _)
    obtain ⟨z, G2, q1, q2, q3, q4, q5, q6, q7, q8⟩ := finish_sound hat2 (a := a') (g4.mono hdl) g3 hres (kc := kc) (nlc := nlc) hk1 hf
    refine ⟨z, q1, z, rfl, callTo_of h hk1 (g2.trans hdl) q2 q3 (by rw [q4]; exact g3) q5 q6 q7 q8⟩
  rcases hex' with rfl | rfl
  ·exact hleave
  ·exact hleave
theorem rawsOf_run {st : St} {a : Act} (h : At P B0 w0 G k nl st.sig w) (hR : TmpsRel G k nl st.tmps a) : ∀ {rs : List ResultVar} {ars : List ARes} {l : List AV},
  mapO (compRes P) rs = some ars → rawsOf st ars = some l → ∃ vs : List Value, (rs.mapM (resOf a.tmps)).run P w = .ok vs w ∧ vs.length = l.length ∧ ∀ i (hi : i < l.length) (hj : i < vs.length), Rel G k nl l[i] vs[i]
 | [], ars, l, hm, hr => by
  simp only [mapO] at hm
  injection hm with hm
  subst hm
  simp only [rawsOf] at hr
  injection hr with hr
  subst hr
  exact ⟨[], by simp, rfl, fun i hi => absurd hi (Nat.not_lt_zero _)⟩
 | r :: rs, ars, l, hm, hr => by
  simp only [mapO] at hm
  split at hm
  ·rename_i ar ars' e1 e2
   injection hm with hm
   subst hm
   simp only [rawsOf] at hr
   split at hr
   ·rename_i x l' f1 f2
    injection hr with hr
    subst hr
    obtain ⟨z, r1, r2⟩ := resultRaw_sound h hR e1 f1
    obtain ⟨vs, v1, v2, v3⟩ := rawsOf_run h hR e2 f2
    refine ⟨z :: vs, ?_, by simp [v2], fun i hi hj => ?_⟩
    ·simp only [List.mapM_cons, Sem.run_bind, r1, Result.andThen_ok, v1, Sem.run_pure]
    ·cases i with
     | zero => exact r2
     | succ i => exact v3 i (by simpa using hi) (by simpa using hj)
   ·cases hr
  ·cases hm
theorem inl_sound {AP : FuncId → Option AFn} {K : World → Prop} (hp : ProgOk P AP K) {call : CallF} (hcall : CallSound P B0 w0 call) (hhere : HereSound P B0 w0 call) (hro : RoOk call) {lf : Nat} {f : FuncId} {np nt : Nat} {b : ACode} {rs : List ARes} {own : Bool} {args : List AV} {xs : Array Value}
  (hap : AP f = some (.code np nt b rs own)) (h : At P B0 w0 G k nl s w) (hll : s.loops.length = nl) (hl : xs.size = args.length) (hR : ∀ i (hi : i < args.length), Rel G k nl args[i] (xs.getD i Go.undef))
  {e : AExit} {st : St} (hlen : args.length = np) (he : exec call lf b ⟨argsT args, s⟩ = some (e, st)) (hn : e = .normal ∨ e = .ret) {l : List AV} (hr : rawsOf st rs = some l) :
  HasBody P f ∧ Calls P f xs w fun e w' => ∃ z, e = .returned z ∧ CallTo P B0 w0 G k nl s st.sig w' (packed l) z := by
 obtain ⟨fn, mu, hfn, hcf⟩ := hp.code f np nt b rs own hap
 obtain ⟨c, hb, hname, hcomp, hres, hnp, htm, _⟩ := compFn_spec hcf
 refine ⟨⟨fn, c, hfn, hb, hname⟩, ?_⟩
 refine (callsIn_wide (n := 0)).1 ?_
 have hsz : (xs ++ Array.replicate (fn.ntmps - xs.size) Go.undef).size = fn.ntmps := by simp; omega
 obtain ⟨gr0, hg0, hnl0⟩ := h.cur
 refine callsIn_of_wp_marks hfn hb trivial (wpIn_mono (exec_sound (rd := none) (n := 0) (lf := lf) (base := gr0.marks) hcall hhere hro hp.mixed c b G ⟨argsT args, s⟩ st ⟨xs ++ Array.replicate (fn.ntmps - xs.size) Go.undef, []⟩ w e hcomp h hll (fun t => ?_) (by rw [hsz]; exact htm)
  (fun r e => by cases e) (fun _ => ⟨gr0, [], hg0, by simp, rfl⟩) he) fun ex a' w' hpost => ?_)
 ·show Rel _ _ _ (argsT args t) ((xs ++ Array.replicate (fn.ntmps - xs.size) Go.undef).getD t Go.undef)
  rw [argsT_get, getD_append]
  split
  ·rename_i ht
   rw [if_pos (by omega)]
   exact hR t ht
  ·rename_i ht
   rw [if_neg (by omega)]
   have : (Array.replicate (fn.ntmps - xs.size) Go.undef).getD (t - xs.size) Go.undef = Go.undef := by
    by_cases hq : t - xs.size < fn.ntmps - xs.size
    ·simp [Array.getD, hq]
    ·simp [Array.getD, hq]
   rw [this]
   exact .undef
 ·obtain ⟨hex, G1, g1, g2, g3, g4, g5, g6⟩ := hpost
  have hex' : ex = .normal ∨ ex = .ret := by rcases hn with rfl | rfl <;> simp [hex, exitOf]
  obtain ⟨r, gr, hr1, hg⟩ := g1.rec_ (Nat.le_refl _)
  obtain ⟨gr', new, e1, e3, e2⟩ := g6 rfl
  rw [hg] at e1
  injection e1 with e1
  subst e1
  have hdl := fun {k'} (hk : k' ≤ k) => G1.dropMarks_le k nl gr0.marks.length hk
  have hle : GLe (k + 1) s.loops.length G (G1.dropMarks k gr0.marks.length) := by
   refine ⟨fun b i v e => g2.I b i v e, fun d gq hd e => ?_, fun l r hl e => g2.loops l r (by omega) e⟩
   have hdk : d < k + 1 := by
    have := (List.getElem?_eq_some_iff.1 e).1
    rw [h.rel.len, h.len] at this; exact this
   obtain ⟨g1', c1, c2, c3⟩ := g2.acts d gq (by omega) e
   by_cases hdk' : d = k
   ·subst hdk'
    rw [hg] at c1
    injection c1 with c1
    subst c1
    rw [hg0] at e
    injection e with e
    subst e
    refine ⟨{ gr with marks := gr.marks.take gr0.marks.length }, by simp [Ghost.dropMarks, hg], ⟨c2.bl, c2.tk, c2.nl, c2.gs, c2.mp⟩, fun _ => ?_⟩
    simp [e3]
   ·obtain ⟨g2', c4, c5, c6⟩ := (hdl (Nat.le_refl _)).acts d g1' (by omega) c1
    exact ⟨g2', c4, c2.trans c5, fun _ => (c6 (by omega)).trans (c3 (by omega))⟩
  have hleave : LeavesInM Fence.wide 0 P fn a'.tmps (fun e w' => ∃ z, e = .returned z ∧ CallTo P B0 w0 G k nl s st.sig w' (packed l) z) a'.defers .returning w' := by
   rw [e2, ← List.map_reverse]
   refine leaves_marks (G := G1.dropMarks k gr0.marks.length) new.reverse w' (dropMarks_sound g1 gr0.marks.length) (fun m hm => ?_) ((List.reverse_perm _).nodup_iff.2 ?_) (fun w'' hat2 => ?_)
   ·obtain ⟨i, hi, rfl⟩ := List.getElem_of_mem (List.mem_reverse.1 hm)
    have hmk := (g1.rel.rec_ _ r gr hr1 hg).mark (gr0.marks.length + i) new[i] (by rw [e3, List.getElem?_append_right (by omega)]; simp)
    refine ⟨hmk.1, ?_, hmk.2.2⟩
    simp [Ghost.dropMarks, hmk.2.1]
   ·have := marks_nodup g1.rel hr1 hg
    rw [e3] at this
    exact (List.nodup_append.1 this).2.1
   ·obtain ⟨vs, v1, v2, v3⟩ := rawsOf_run hat2 (a := a') (g4.mono (hdl (Nat.le_refl _))) hres hr
    exact ⟨_, results_run v1, _, rfl, _, hat2.rel, hat2.len.trans h.len.symm, g3.trans hll.symm, hle, packed_rel v2 v3⟩
  rcases hex' with rfl | rfl
  ·exact hleave
  ·exact hleave
theorem prim_sound {AP : FuncId → Option AFn} {K : World → Prop} (hp : ProgOk P AP K) (hK : ∀ w, Below B0 w0 w → K w) {kc nlc : Nat} {f : FuncId} {F : List AV → Option AV} {args : List AV} {xs : Array Value} {x : AV} {s' : Sig}
  (hap : AP f = some (.prim F)) (h : SRel P B0 w0 G s w) (hl : xs.size = args.length) (hR : ∀ i (hi : i < args.length), Rel G kc nlc args[i] (xs.getD i Go.undef)) (hc : ((closeAll args).bind fun as => (F as).map (·, s)) = some (x, s')) :
  HasBody P f ∧ Calls P f xs w fun e w' => ∃ z, e = .returned z ∧ CallTo P B0 w0 G kc nlc s s' w' x z := by
 obtain ⟨hb, hprim⟩ := hp.prim f F hap
 refine ⟨hb, ?_⟩
 obtain ⟨as, has, hc⟩ := Option.bind_eq_some_iff.1 hc
 obtain ⟨y, hy, hc⟩ := Option.map_eq_some_iff.1 hc
 injection hc with h1 h2
 subst h1 h2
 obtain ⟨c1, c2⟩ := closeAll_spec has
 refine Calls.mono (hprim G.I w as xs y (hK w h.below) h.imm (by rw [hl, c1]) (fun i hi => (hR i (by omega)).close (c2 i (by omega) hi)) hy) fun e w' hq => ?_
 obtain ⟨z, I', rfl, i1, i2, i3, i4, i5⟩ := hq
 refine ⟨z, rfl, { G with I := I' }, ?_, rfl, rfl, ⟨i1, fun d gr _ e => ⟨gr, e, .refl gr, fun _ => rfl⟩, fun _ _ _ e => e⟩, i5.rel⟩
 refine h.keep i1 rfl rfl (fun b o e _ => ⟨e, i4.block b (h.ownlt b o e), fun i hi => ?_⟩) i3 (i4.mono h.low) (fun b o e => Nat.lt_of_lt_of_le (h.ownlt b o e) i4.size)
 show I' b i = none
 cases hv : I' b i with
 | none => rfl
 | some v =>
  rcases i2 b i v hv with hv' | hv'
  ·rw [hi] at hv'; cases hv'
  ·have := h.ownlt b o e; omega
theorem setParams_rel : ∀ (ps : List Nat) (args : List AV) (vs : List Value) (ρ : Nat → AV) (t : Array Value), args.length = ps.length → vs.length = ps.length → (∀ p, p ∈ ps → p < t.size) → (∀ i (hi : i < args.length) (hj : i < vs.length), Rel G k nl args[i] vs[i]) →
  (∀ u, Rel G k nl (ρ u) (t.getD u Go.undef)) → (∀ u, Rel G k nl (setParams ρ ps args u) (((ps.zip vs).foldl (fun (t : Array Value) (q : Nat × Value) => t.setIfInBounds q.1 q.2) t).getD u Go.undef)) ∧ ((ps.zip vs).foldl (fun (t : Array Value) (q : Nat × Value) => t.setIfInBounds q.1 q.2) t).size = t.size
 | [], args, vs, ρ, t, h1, h2, hp, hR, ht => by
  cases args with
  | nil => exact ⟨by simpa [setParams] using ht, by simp⟩
  | cons => simp at h1
 | p :: ps, [], vs, ρ, t, h1, h2, hp, hR, ht => by simp at h1
 | p :: ps, a :: args, [], ρ, t, h1, h2, hp, hR, ht => by simp at h2
 | p :: ps, a :: args, v :: vs, ρ, t, h1, h2, hp, hR, ht => by
  have h0 : Rel G k nl a v := hR 0 (by simp) (by simp)
  have hput : ∀ u, Rel G k nl (put p a ρ u) ((t.setIfInBounds p v).getD u Go.undef) := by
   have := TmpsRel.put (a := ⟨t, []⟩) (dst := some p) (fun u => ht u) (fun q e => by injection e with e; subst e; exact hp p (by simp)) h0
   exact fun u => this u
  obtain ⟨i1, i2⟩ := setParams_rel ps args vs (put p a ρ) (t.setIfInBounds p v) (by simpa using h1) (by simpa using h2) (fun q hq => by simp; exact hp q (by simp [hq])) (fun i hi hj => hR (i + 1) (by simpa using hi) (by simpa using hj)) hput
  exact ⟨i1, by rw [List.zip_cons_cons, List.foldl_cons, i2]; simp⟩
theorem LoopObj.upd {l : Nat} {lp lp' : ALoop} {rc rc' : Loop} (h : LoopObj P G l lp rc) (h1 : rc'.params = rc.params) (h2 : rc'.assign = rc.assign) (h3 : rc'.body = rc.body) (h4 : rc'.tmps = rc.tmps) (g1 : lp'.params = lp.params) (g2 : lp'.assign = lp.assign) (g3 : lp'.body = lp.body)
  (g4 : lp'.tmps = lp.tmps) (a1 : lp'.ready = true → rc'.state = .ready ∧ lp'.pend = none) (a2 : lp'.ready = false → rc'.state = (if lp'.pend.isSome then .done else .busy)) (a3 : rc'.pending = lp'.pend.bind exitCode) (a4 : lp'.pend ≠ some .normal) : LoopObj P G l lp' rc' := by
 obtain ⟨_, _, _, _, b5, ⟨mu, b6, b7⟩, b8, b9, b10, k, nl, b11, b12, b14, b13⟩ := h
 exact ⟨a1, a2, a3, a4, by rw [h1, g1]; exact b5, ⟨mu, by rw [h2, g2]; exact b6, by rw [h3, g3]; exact b7⟩, by rw [h4, g2]; exact b8, by rw [h4, g3]; exact b9, by rw [h4, g1]; exact b10, k, nl, b11, b12, b14, by rw [h4, g4]; exact b13⟩
theorem At.loopAt (h : At P B0 w0 G k nl s w) (hll : s.loops.length = nl) {l r : Nat} (hl : l < nl) (hr : G.loops[l]? = some r) : ∃ lp rc, s.loops[l]? = some lp ∧ w.heap[r]? = some (.loop rc) ∧ LoopObj P G l lp rc := by
 have hlt : l < s.loops.length := by omega
 obtain ⟨_, _, rc, h3, h4⟩ := h.rel.loop l _ r (List.getElem?_eq_getElem hlt) hr
 exact ⟨_, rc, List.getElem?_eq_getElem hlt, h3, h4⟩
theorem At.turn (h : At P B0 w0 G k nl s w) {l r : Nat} {lp lp' : ALoop} {rc rc' : Loop} (hl : s.loops[l]? = some lp) (hr : G.loops[l]? = some r) (hrc : w.heap[r]? = some (.loop rc)) {f : ALoop → ALoop} (hf : f lp = lp') (ho : LoopObj P G l lp' rc') :
  At P B0 w0 G k nl (setLoop s l f) (w.putObj r (.loop rc')) :=
 ⟨setLoop_sound h.rel hl hr hrc hf ho, h.len, h.cur⟩
theorem yield_sound {AP : FuncId → Option AFn} {K : World → Prop} (hp : ProgOk P AP K) {call : CallF} (hcall : CallSound P B0 w0 call) (hhere : HereSound P B0 w0 call) (hro : RoOk call) {lf : Nat} {kc nlc l r : Nat} {args : List AV} {xs : Array Value} {x : AV} {s' : Sig}
    (h : SRel P B0 w0 G s w) (hk1 : s.acts.length ≤ kc + 1) (hk2 : kc ≤ s.acts.length) (hnl : nlc ≤ s.loops.length) (hlt : l < nlc) (hgl : G.loops[l]? = some r) (hl : xs.size = args.length) (hR : ∀ i (hi : i < args.length), Rel G kc nlc args[i] (xs.getD i Go.undef))
    (hc : callStep AP call lf (.yield l) args s = some (x, s')) :
    ∃ rc : Loop, w.heap[r]? = some (.loop rc) ∧ xs.size = rc.params.size ∧ ∀ n, RoundIn Fence.wide n P r rc.fn ((rc.params.zip xs).foldl (fun tmps (t, a) => tmps.setIfInBounds t a) rc.tmps) rc.assign rc.body w
      fun e w' => ∃ z, e = .returned z ∧ CallTo P B0 w0 G kc nlc s s' w' x z := by
  unfold callStep at hc
  simp only at hc
  split at hc
  case h_2 => cases hc
  rename_i lp hlp
  split at hc
  case isFalse => cases hc
  rename_i hcond
  obtain ⟨hready, _, hargs⟩ := hcond
  split at hc
  case h_2 => cases hc
  rename_i st hassign
  split at hc
  case isFalse => cases hc
  rename_i hrd2
  obtain ⟨_, _, rc, hrc, hobj⟩ := h.loop l lp r hlp hgl
  obtain ⟨o1, o2, o3, o4, o5, ⟨mu, o6, o7⟩, o8, o9, o10, k', nl', o11, o12, o14, o13⟩ := hobj
  have hpl : rc.params.size = lp.params.length := by rw [← o5]; simp
  refine ⟨rc, hrc, by rw [hl, hargs, hpl], fun n => ?_⟩
  have hat := push_sound h
  have hG0 := G.pushA_le s.loops.length
  have hlts : l < s.loops.length := by omega
  have hgl0 : (G.pushA s.loops.length).loops[l]? = some r := hgl
  have hround : RoundAt (some r) (G.pushA s.loops.length) s.loops.length := fun r' e => by injection e with e; subst e; exact ⟨l, hlts, hgl0⟩
  have hfold : (rc.params.zip xs).foldl (fun (tmps : Array Value) (x : Tmp × Value) => match x with | (t, a) => tmps.setIfInBounds t a) rc.tmps = (lp.params.zip xs.toList).foldl (fun (t : Array Value) (q : Nat × Value) => t.setIfInBounds q.1 q.2) rc.tmps := by
    rw [← Array.foldl_toList, Array.toList_zip, o5]
  rw [hfold]
  obtain ⟨p1, p2⟩ := setParams_rel (G := G.pushA s.loops.length) (k := s.acts.length) (nl := s.loops.length) lp.params args xs.toList lp.tmps rc.tmps hargs (by simp [hl, hargs]) o10
    (fun i hi hj => by
      have := (hR i hi).mono (hG0 kc nlc) hk2 hnl
      have e : xs.getD i Go.undef = xs.toList[i] := by
        have : i < xs.size := by simpa using hj
        simp [Array.getD, this]
      rw [← e]
      exact this)
    (fun u => (o13 u).mono (hG0 k' nl') (by have := h.len; omega) (by omega))
  have hF : Fence.wide.fn rc.fn := trivial
  refine roundIn_of_wpIn hF (wpIn_mono (exec_sound (k := s.acts.length) (nl := s.loops.length) (rd := some r) (n := n) (lf := lf) (base := []) hcall hhere hro hp.mixed rc.assign lp.assign (G.pushA s.loops.length) ⟨setParams lp.tmps lp.params args, s.push ⟨[], []⟩⟩ st ⟨_, []⟩ w .normal o6 hat rfl p1 (by rw [p2]; exact o8) hround (fun e => by cases e) hassign) fun ex a1 w1 hpost => ?_)
  obtain ⟨rfl, G1, g1, g2, g3, g4, g5, _⟩ := hpost
  have hr1 : G1.loops[l]? = some r := g2.loops l r hlts hgl0
  obtain ⟨lp1, rc1, q1, q2, q3⟩ := g1.loopAt g3 hlts hr1
  have hrdy1 : lp1.ready = true := by simpa [loopReady, q1] using hrd2
  obtain ⟨s1, s2⟩ := q3.1 hrdy1
  have hpend1 : rc1.pending = none := by rw [q3.2.2.1, s2]; rfl
  show ∃ w₂, (Instr.beginRound r).run P w1 = .ok () w₂ ∧ _
  refine ⟨_, run_beginRound q2 s1, ?_⟩
  have hobj1 : LoopObj P G1 l { lp1 with ready := false } { rc1 with state := .busy } := q3.upd rfl rfl rfl rfl rfl rfl rfl rfl (fun e => by cases e) (fun _ => by simp [s2]) (by simp [hpend1, s2]) (by simp [s2])
  have hat1 := g1.turn q1 hr1 q2 (f := fun p => { p with ready := false }) rfl hobj1
  have hll1 : (setLoop st.sig l fun p => { p with ready := false }).loops.length = s.loops.length := by simp [setLoop, g3]
  have body : ∀ (e : AExit) (st' : St), exec call lf lp.body ⟨st.tmps, setLoop st.sig l fun p => { p with ready := false }⟩ = some (e, st') → (∀ (ex : Exit) (a' : Act) (w2 : World) (G2 : Ghost), ex = exitOf e → At P B0 w0 G2 s.acts.length s.loops.length st'.sig w2 → GLe s.acts.length s.loops.length (G.pushA s.loops.length) G2 →
      st'.sig.loops.length = s.loops.length → G2.loops[l]? = some r → roundPost P r (fun e w' => ∃ z, e = .returned z ∧ CallTo P B0 w0 G kc nlc s s' w' x z) ex a' w2) →
      rc.body.wpIn (Fence.wide.inRound r) n P (roundPost P r (fun e w' => ∃ z, e = .returned z ∧ CallTo P B0 w0 G kc nlc s s' w' x z)) a1 (w1.putObj r (.loop { rc1 with state := .busy })) := fun e st' hbody hq => by
    refine wpIn_mono (exec_sound (k := s.acts.length) (nl := s.loops.length) (rd := some r) (n := n) (lf := lf) (base := []) hcall hhere hro hp.mixed rc.body lp.body G1 ⟨st.tmps, setLoop st.sig l fun p => { p with ready := false }⟩ st' a1 _ e o7 hat1 hll1 g4 (by rw [g5]; rw [p2]; exact o9) (hround.mono g2) (fun e => by cases e) hbody) fun ex a2 w2 hpost => ?_
    obtain ⟨hex, G2, k1, k2, k3, k4, k5, _⟩ := hpost
    exact hq ex a2 w2 G2 hex k1 (g2.trans k2) k3 (k2.loops l r hlts hr1)
  have fin : ∀ (G2 : Ghost) (st' : St) (w2 : World) (jump : Option Code) (f : ALoop → ALoop) (b : Bool), At P B0 w0 G2 s.acts.length s.loops.length st'.sig w2 → GLe s.acts.length s.loops.length (G.pushA s.loops.length) G2 → st'.sig.loops.length = s.loops.length → G2.loops[l]? = some r →
      (∀ lp2 rc2, LoopObj P G2 l lp2 rc2 → LoopObj P G2 l (f lp2) { rc2 with state := if jump.isNone then .ready else .done, pending := jump }) → jump.isNone = b → x = .v (.bool b) → s' = (setLoop st'.sig l f).pop →
      ∃ v w', (Instr.endRound r jump).run P w2 = .ok v w' ∧ ∃ z, (Ending.returned v) = .returned z ∧ CallTo P B0 w0 G kc nlc s s' w' x z := fun G2 st' w2 jump f b k1 k2 k3 k4 hf hb hx hs => by
    obtain ⟨lp2, rc2, m1, m2, m3⟩ := k1.loopAt k3 hlts k4
    have hat2 := k1.turn m1 k4 m2 (f := f) rfl (hf lp2 rc2 m3)
    have hll2 : (setLoop st'.sig l f).loops.length = s.loops.length := by simp [setLoop, k3]
    obtain ⟨gr, hg, _⟩ := hat2.cur
    obtain ⟨t1, t2, t3, t4⟩ := pop_sound hat2 hll2 hg
    refine ⟨_, _, run_endRound jump m2, _, rfl, ?_⟩
    subst hs hx hb
    exact callTo_of h hk1 k2 t1 (by simp [Sig.pop, hat2.len]) hll2 t2 (fun d q hd e => ⟨q, by rw [t4 d hd]; exact e, .refl q, rfl⟩) (fun _ _ e => e) (.val _ rfl)
  split at hc
  · rename_i st' hbody
    injection hc with hc
    injection hc with hx hs
    refine body .normal st' hbody fun ex a' w2 G2 hex k1 k2 k3 k4 => ?_
    subst hex
    exact fin G2 st' w2 none (fun p => { p with ready := true, pend := none }) true k1 k2 k3 k4 (fun lp2 rc2 m => m.upd rfl rfl rfl rfl rfl rfl rfl rfl (fun _ => ⟨rfl, rfl⟩) (fun e => by cases e) rfl (by simp)) rfl hx.symm hs.symm
  · rename_i e st' hne hbody
    injection hc with hc
    injection hc with hx hs
    refine body e st' hbody fun ex a' w2 G2 hex k1 k2 k3 k4 => ?_
    subst hex
    cases e with
    | normal => exact absurd rfl hne
    | exit id => exact fin G2 st' w2 (some (.exit id)) (fun p => { p with ready := false, pend := some (.exit id) }) false k1 k2 k3 k4 (fun lp2 rc2 m => m.upd rfl rfl rfl rfl rfl rfl rfl rfl (fun e => by cases e) (fun _ => rfl) rfl (by simp)) rfl hx.symm hs.symm
    | ret => exact fin G2 st' w2 (some .ret) (fun p => { p with ready := false, pend := some .ret }) false k1 k2 k3 k4 (fun lp2 rc2 m => m.upd rfl rfl rfl rfl rfl rfl rfl rfl (fun e => by cases e) (fun _ => rfl) rfl (by simp)) rfl hx.symm hs.symm
  · cases hc
theorem callStep_sound {AP : FuncId → Option AFn} {K : World → Prop} (hp : ProgOk P AP K) (hK : ∀ w, Below B0 w0 w → K w) {call : CallF} (hcall : CallSound P B0 w0 call) (hhere : HereSound P B0 w0 call) (hro : RoOk call) (lf : Nat) : CallSound P B0 w0 (callStep AP call lf) := by
 refine ⟨fun G k nl s w f args xs res s' h hk1 hk2 hnl hl hR hc => ?_, fun G k nl s w l r args xs res s' h hk1 hk2 hnl hlt hgl hl hR hc => yield_sound hp hcall hhere hro h hk1 hk2 hnl hlt hgl hl hR hc⟩
 unfold callStep at hc
 simp only at hc
 split at hc
 ·rename_i np nt b rs own hap
  split at hc
  ·rename_i hlen
   split at hc
   ·rename_i st he
    exact code_sound hp hcall hhere hro hap h hk1 hk2 hnl hl hR hlen he (.inl rfl) hc
   ·rename_i st he
    exact code_sound hp hcall hhere hro hap h hk1 hk2 hnl hl hR hlen he (.inr rfl) hc
   ·cases hc
  ·cases hc
 ·rename_i F hap
  exact prim_sound hp hK hap h hl hR hc
 ·cases hc
theorem callStep_here {AP : FuncId → Option AFn} {K : World → Prop} (hp : ProgOk P AP K) {call : CallF} (hcall : CallSound P B0 w0 call) (hhere : HereSound P B0 w0 call) (hro : RoOk call) (lf : Nat) : HereSound P B0 w0 (callStep AP call lf) := by
 refine ⟨fun G k nl s w f args xs res s' h hll hl hR hc => ?_, fun I s w f args xs res s' hl hR hc => ?_⟩
 ·unfold callStep at hc
  simp only at hc
  split at hc
  ·rename_i np nt b rs own hap
   split at hc
   ·rename_i hlen
    split at hc
    ·rename_i st he
     obtain ⟨l, hr, hc⟩ := Option.map_eq_some_iff.1 hc
     injection hc with h1 h2
     subst h1 h2
     exact inl_sound hp hcall hhere hro hap h hll hl hR hlen.1 he (.inl rfl) hr
    ·rename_i st he
     obtain ⟨l, hr, hc⟩ := Option.map_eq_some_iff.1 hc
     injection hc with h1 h2
     subst h1 h2
     exact inl_sound hp hcall hhere hro hap h hll hl hR hlen.1 he (.inr rfl) hr
    ·cases hc
   ·cases hc
  ·cases hc
 ·unfold callStep at hc
  simp only at hc
  split at hc
  ·rename_i F hap
   obtain ⟨as, has, hc⟩ := Option.bind_eq_some_iff.1 hc
   obtain ⟨y, hy, hc⟩ := Option.map_eq_some_iff.1 hc
   injection hc with h1 h2
   subst h1 h2
   obtain ⟨c1, c2⟩ := closeAll_spec has
   refine ⟨rfl, hp.nat f F hap I w as xs y (by rw [hl, c1]) (fun i hi => hR i (by omega) _ (c2 i (by omega) hi)) hy⟩
  ·cases hc
theorem callN_sound {AP : FuncId → Option AFn} {K : World → Prop} (hp : ProgOk P AP K) (hK : ∀ w, Below B0 w0 w → K w) : ∀ n, CallSound P B0 w0 (callN AP n) ∧ HereSound P B0 w0 (callN AP n) ∧ RoOk (callN AP n)
 | 0 => ⟨⟨fun _ _ _ _ _ _ _ _ _ _ _ _ _ _ _ _ h => by simp [callN] at h, fun _ _ _ _ _ _ _ _ _ _ _ _ _ _ _ _ _ _ _ h => by simp [callN] at h⟩, ⟨fun _ _ _ _ _ _ _ _ _ _ _ _ _ _ h => by simp [callN] at h, fun _ _ _ _ _ _ _ _ _ _ h => by simp [callN] at h⟩, fun _ _ _ _ _ _ _ h => by simp [callN] at h⟩
 | n + 1 =>
  have h := callN_sound hp hK n
  ⟨callStep_sound hp hK h.1 h.2.1 h.2.2 n, callStep_here hp h.1 h.2.1 h.2.2 n, RoOk.step h.2.2 n⟩
end
end Go.Ax

/-
  From the executor's answer to the call of the model.
-/
namespace Go.Ax
open Go.RowKit
def startG (w : World) : Ghost := { I := fun b i => w.cell? ⟨b, i, none⟩, acts := [], loops := [], own := fun _ => none }
def startS : Sig := ⟨[], [], 0, 0⟩
theorem start_rel (P : Program) (w : World) : SRel P w.heap.size w (startG w) startS w :=
 ⟨fun _ _ _ e => e, rfl, rfl, fun d r gr e => by simp [startS] at e, fun l lp r e => by simp [startS] at e, fun d gr e => by simp [startG] at e, fun d d' gr gr' _ e => by simp [startG] at e, Below.refl _ _, Nat.le_refl _, fun b o e => by cases e⟩
abbrev Reads (w : World) : AV → Value → Prop := RelC fun b i => w.cell? ⟨b, i, none⟩
theorem run_sound {P : Program} {AP : FuncId → Option AFn} {K : World → Prop} (hp : ProgOk P AP K) {n : Nat} {f : FuncId} {args : List AV} {xs : Array Value} {w : World} {b : Bool} {s' : Sig} (hK : ∀ w', Below w.heap.size w w' → K w') (hl : xs.size = args.length) (hR : ∀ i (hi : i < args.length), Reads w args[i] (xs.getD i Go.undef))
  (hc : callN AP n (.fn f) args startS = some (.v (.bool b), s')) : Calls P f xs w fun e w' => e = .returned (.bool b) ∧ Below w.heap.size w w' := by
 have := ((callN_sound (P := P) (B0 := w.heap.size) (w0 := w) hp hK n).1.fn (startG w) 0 0 startS w f args xs _ s' (start_rel P w) (Nat.zero_le _) (Nat.le_refl _) (Nat.le_refl _) hl (fun i hi => .cl (hR i hi)) hc).2
 refine Calls.mono this fun e w' he => ?_
 obtain ⟨z, rfl, G', h1, _, _, _, h5⟩ := he
 rw [h5.inv_v]
 exact ⟨rfl, h1.below⟩
end Go.Ax

/-
  The executor without its bound: what it gives with some bound. Equations to compute with.
-/
namespace Go.Ax
def LeF (c c' : CallF) : Prop := ∀ t a s r, c t a s = some r → c' t a s = some r
theorem LeF.refl (c : CallF) : LeF c c := fun _ _ _ _ h => h
theorem LeF.trans {a b c : CallF} (h : LeF a b) (k : LeF b c) : LeF a c := fun t x s r e => k t x s r (h t x s r e)
theorem doCall_mono {c c' : CallF} (h : LeF c c') {ro : Bool} {m : Sig} {t : Target} {as : List AV} {r : AV × Sig} (e : doCall c ro m t as = some r) : doCall c' ro m t as = some r := by
 unfold doCall at e ⊢
 split
 ·rw [if_pos (by assumption)] at e
  obtain ⟨p, hp, rfl⟩ := Option.map_eq_some_iff.1 e
  rw [h _ _ _ _ hp]
  rfl
 ·rw [if_neg (by assumption)] at e
  exact h _ _ _ _ e
theorem calloOp_mono {c c' : CallF} (h : LeF c c') {m : Sig} {f : FuncId} {as : List AV} {r : AV × Sig} (e : calloOp c m f as = some r) : calloOp c' m f as = some r := by
 unfold calloOp at e ⊢
 cases hc : c (.fn f) as { m.push ⟨[], []⟩ with ro := m.acts.length, lro := m.loops.length } with
 | none => rw [hc] at e; cases e
 | some p => rw [hc] at e; rw [h _ _ _ _ hc]; exact e
theorem callvOp_mono {c c' : CallF} (h : LeF c c') {ro : Bool} {m : Sig} {x : AV} {as : List AV} {r : AV × Sig} (e : callvOp c ro m x as = some r) : callvOp c' ro m x as = some r := by
 cases x <;> first
  | exact doCall_mono h e
  | (simp [callvOp] at e)
theorem fcallOp_iff {c : CallF} {ro : Bool} {m : Sig} {zs : List (List AV)} {t : Target} {as : List AV} {r : AV × Sig} : fcallOp c ro m zs t as = some r ↔
  doCall c ro m t as = some r ∧ m.tail zs.length ∈ fills zs ∧ (∀ bx, bx ∈ fills zs → doCall c ro (m.setTail zs.length bx) t as = some (r.1, r.2.setTail zs.length bx)) ∧ r.2.acts.length = m.acts.length ∧ r.2.nbox m.cur = m.nbox m.cur ∧ r.2.tail zs.length = m.tail zs.length ∧ (ro = true → r.2 = m) ∧ (r.2.noneTok m.cur = false → m.noneTok m.cur = false) := by
 unfold fcallOp
 constructor
 ·intro h
  split at h
  ·rename_i v m' e
   split at h
   ·rename_i hc
    injection h with h
    subst h
    exact ⟨e, hc⟩
   ·cases h
  ·cases h
 ·rintro ⟨h1, h2⟩
  rw [h1]
  simp only
  rw [if_pos h2]
theorem fcallOp_mono {c c' : CallF} (h : LeF c c') {ro : Bool} {m : Sig} {zs : List (List AV)} {t : Target} {as : List AV} {r : AV × Sig} (e : fcallOp c ro m zs t as = some r) : fcallOp c' ro m zs t as = some r := by
 obtain ⟨h1, h2, h3, h4⟩ := fcallOp_iff.1 e
 exact fcallOp_iff.2 ⟨doCall_mono h h1, h2, fun bx hb => doCall_mono h (h3 bx hb), h4⟩
theorem callbOp_mono {c c' : CallF} (h : LeF c c') {m : Sig} {f : FuncId} {as : List AV} {r : AV × Sig} (e : callbOp c m f as = some r) : callbOp c' m f as = some r := by
 unfold callbOp at e ⊢
 cases hc : c (.fn f) as { m.push ⟨[], []⟩ with ro := m.acts.length, lro := m.loops.length } with
 | none => rw [hc] at e; cases e
 | some p => rw [hc] at e; rw [h _ _ _ _ hc]; exact e
theorem callqOp_iff {c : CallF} {m : Sig} {t : Target} {as : List AV} {ws : List (Bool × Nat × AV)} {r : AV × Sig} : callqOp c m t as ws = some r ↔ c t as m = some r ∧ ∀ q, q ∈ ws → r.2.load q.1 q.2.1 q.2.2 = m.load q.1 q.2.1 q.2.2 := by
 unfold callqOp
 constructor
 ·intro h
  split at h
  ·rename_i v m' e
   split at h
   ·rename_i hc
    injection h with h
    subst h
    exact ⟨e, hc⟩
   ·cases h
  ·cases h
 ·rintro ⟨h1, h2⟩
  rw [h1]
  simp only
  rw [if_pos h2]
theorem callqOp_mono {c c' : CallF} (h : LeF c c') {m : Sig} {t : Target} {as : List AV} {ws : List (Bool × Nat × AV)} {r : AV × Sig} (e : callqOp c m t as ws = some r) : callqOp c' m t as ws = some r := by
 obtain ⟨h1, h2⟩ := callqOp_iff.1 e
 exact callqOp_iff.2 ⟨h _ _ _ _ h1, h2⟩
theorem opv_mono {c c' : CallF} (h : LeF c c') {ρ : AOpd → AV} {m : Sig} {op : AOp} {r : AV × Sig} (e : opv c ρ m op = some r) : opv c' ρ m op = some r := by
 cases op <;> first
  | exact e
  | exact doCall_mono h e
  | exact callvOp_mono h e
  | exact calloOp_mono h e
  | exact fcallOp_mono h e
  | exact callbOp_mono h e
  | exact callqOp_mono h e
theorem ops_mono {c c' : CallF} (h : LeF c c') : ∀ {l : List AOper} {st r : St}, ops c l st = some r → ops c' l st = some r
 | [], st, r, e => e
 | o :: l, st, r, e => by
  unfold ops at e ⊢
  split
  ·rename_i hw
   rw [if_pos hw] at e
   split at e
   ·rename_i x m hv
    rw [opv_mono h hv]
    exact ops_mono h e
   ·cases e
  ·rename_i hw
   rw [if_neg hw] at e
   exact ops_mono h e
theorem loopN_mono {f g : St → Option (AExit × St)} (h : ∀ st r, f st = some r → g st = some r) : ∀ {n m : Nat} {st : St} {r : AExit × St}, n ≤ m → loopN f n st = some r → loopN g m st = some r
 | 0, _, _, _, _, e => by simp [loopN] at e
 | n + 1, 0, _, _, hn, _ => by omega
 | n + 1, m + 1, st, r, hn, e => by
  simp only [loopN] at e ⊢
  split at e
  ·rename_i st1 h1
   rw [h _ _ h1]
   exact loopN_mono h (by omega) e
  ·rename_i hne
   rw [h _ _ e]
   split
   ·rename_i st1 heq
    exact absurd (e.trans heq) (hne _)
   ·rfl
theorem exec_mono {c c' : CallF} (h : LeF c c') {n m : Nat} (hn : n ≤ m) : ∀ {a : ACode} {st : St} {r : AExit × St}, exec c n a st = some r → exec c' m a st = some r := by
 intro a
 induction a with
 | skip => intro st r e; exact e
 | exit => intro st r e; exact e
 | ret => intro st r e; exact e
 | region d l =>
  intro st r e
  simp only [exec] at e ⊢
  obtain ⟨p, hp, rfl⟩ := Option.map_eq_some_iff.1 e
  rw [ops_mono h hp]
  rfl
 | seq a b iha ihb =>
  intro st r e
  simp only [exec] at e ⊢
  split at e
  ·rename_i st1 h1
   rw [iha h1]
   exact ihb e
  ·rename_i hne
   rw [iha e]
   split
   ·rename_i st1 heq
    exact absurd (e.trans heq) (hne _)
   ·rfl
 | cond x a b iha ihb =>
  intro st r e
  simp only [exec] at e ⊢
  split
  ·rename_i t hx
   rw [hx] at e
   simp only at e
   split
   ·rw [if_pos (by assumption)] at e; exact iha e
   ·rw [if_neg (by assumption)] at e; exact ihb e
  ·rename_i hx
   split at e
   ·rename_i t ht
    exact absurd ht (hx _)
   ·cases e
 | block id a ih =>
  intro st r e
  simp only [exec] at e ⊢
  split at e
  ·rename_i j st1 h1
   rw [ih h1]
   exact e
  ·rename_i hne
   rw [ih e]
   split
   ·rename_i j st1 heq
    exact absurd (e.trans heq) (hne _ _)
   ·rfl
 | loop a ih =>
  intro st r e
  simp only [exec] at e ⊢
  exact loopN_mono (fun st r => ih) hn e
 | rangeFunc f ps a b _ _ =>
  intro st r e
  simp only [exec] at e ⊢
  split
  ·rename_i g first caps hf
   rw [hf] at e
   simp only at e
   split at e
   ·rename_i x s hc
    rw [h _ _ _ _ hc]
    exact e
   ·cases e
  ·rename_i hf
   split at e
   ·rename_i g first caps hg
    exact absurd hg (hf _ _ _)
   ·cases e
theorem callStep_mono {AP : FuncId → Option AFn} {c c' : CallF} (h : LeF c c') {n m : Nat} (hn : n ≤ m) : LeF (callStep AP c n) (callStep AP c' m) := by
 intro t as s r e
 unfold callStep at e ⊢
 cases t with
 | fn f =>
  simp only at e ⊢
  split at e
  ·split at e
   ·rename_i hlen
    rw [if_pos hlen]
    split at e
    ·rename_i st he; rw [exec_mono h hn he]; exact e
    ·rename_i st he; rw [exec_mono h hn he]; exact e
    ·cases e
   ·cases e
  ·exact e
  ·cases e
 | inl f =>
  simp only at e ⊢
  split at e
  ·split at e
   ·rename_i hlen
    rw [if_pos hlen]
    split at e
    ·rename_i st he; rw [exec_mono h hn he]; exact e
    ·rename_i st he; rw [exec_mono h hn he]; exact e
    ·cases e
   ·cases e
  ·cases e
 | nat f => exact e
 | yield l =>
  simp only at e ⊢
  split at e
  ·rename_i lp hlp
   split at e
   ·rename_i hcond
    rw [if_pos hcond]
    split at e
    ·rename_i st he
     rw [exec_mono h hn he]
     simp only
     split at e
     ·rename_i hr
      rw [if_pos hr]
      split at e
      ·rename_i st' hb
       rw [exec_mono h hn hb]
       exact e
      ·rename_i ex st' hne hb
       rw [exec_mono h hn hb]
       simp only
       exact e
      ·cases e
     ·cases e
    ·cases e
   ·cases e
  ·cases e
theorem callN_succ {AP : FuncId → Option AFn} : ∀ n, LeF (callN AP n) (callN AP (n + 1))
 | 0 => fun _ _ _ _ e => by simp [callN] at e
 | n + 1 => callStep_mono (callN_succ n) (Nat.le_succ n)
theorem callN_mono {AP : FuncId → Option AFn} {n m : Nat} (h : n ≤ m) : LeF (callN AP n) (callN AP m) := by
 induction h with
 | refl => exact .refl _
 | step _ ih => exact ih.trans (callN_succ _)
section
variable (AP : FuncId → Option AFn)
open Classical in
noncomputable def callL : CallF := fun t as s => if h : ∃ r n, callN AP n t as s = some r then some h.choose else none
open Classical in
noncomputable def runL (c : ACode) (st : St) : Option (AExit × St) := if h : ∃ r n, exec (callN AP n) n c st = some r then some h.choose else none
variable {AP}
theorem callL_iff {t : Target} {as : List AV} {s : Sig} {r : AV × Sig} : callL AP t as s = some r ↔ ∃ n, callN AP n t as s = some r := by
 unfold callL
 constructor
 ·intro h
  split at h
  ·rename_i hex
   injection h with h
   rw [← h]
   exact hex.choose_spec
  ·cases h
 ·intro ⟨n, hn⟩
  have hex : ∃ r n, callN AP n t as s = some r := ⟨r, n, hn⟩
  rw [dif_pos hex]
  obtain ⟨m, hm⟩ := hex.choose_spec
  have h1 := callN_mono (Nat.le_max_left n m) _ _ _ _ hn
  have h2 := callN_mono (Nat.le_max_right n m) _ _ _ _ hm
  rw [h1] at h2
  exact h2.symm
theorem execN_mono {n m : Nat} (h : n ≤ m) {c : ACode} {st : St} {r : AExit × St} (e : exec (callN AP n) n c st = some r) : exec (callN AP m) m c st = some r := exec_mono (callN_mono h) h e
theorem runL_iff {c : ACode} {st : St} {r : AExit × St} : runL AP c st = some r ↔ ∃ n, exec (callN AP n) n c st = some r := by
 unfold runL
 constructor
 ·intro h
  split at h
  ·rename_i hex
   injection h with h
   rw [← h]
   exact hex.choose_spec
  ·cases h
 ·intro ⟨n, hn⟩
  have hex : ∃ r n, exec (callN AP n) n c st = some r := ⟨r, n, hn⟩
  rw [dif_pos hex]
  obtain ⟨m, hm⟩ := hex.choose_spec
  have h1 := execN_mono (Nat.le_max_left n m) hn
  have h2 := execN_mono (Nat.le_max_right n m) hm
  rw [h1] at h2
  exact h2.symm
theorem callN_L (n : Nat) : LeF (callN AP n) (callL AP) := fun _ _ _ _ e => callL_iff.2 ⟨n, e⟩
theorem doCall_cont {ro : Bool} {m : Sig} {t : Target} {as : List AV} {r : AV × Sig} (e : doCall (callL AP) ro m t as = some r) : ∃ n, doCall (callN AP n) ro m t as = some r := by
 unfold doCall at e ⊢
 split at e
 ·obtain ⟨p, hp, rfl⟩ := Option.map_eq_some_iff.1 e
  obtain ⟨n, hn⟩ := callL_iff.1 hp
  exact ⟨n, by rw [if_pos (by assumption), hn]; rfl⟩
 ·obtain ⟨n, hn⟩ := callL_iff.1 e
  exact ⟨n, by rw [if_neg (by assumption), hn]⟩
theorem calloOp_cont {m : Sig} {f : FuncId} {as : List AV} {r : AV × Sig} (e : calloOp (callL AP) m f as = some r) : ∃ n, calloOp (callN AP n) m f as = some r := by
 unfold calloOp at e ⊢
 cases hc : callL AP (.fn f) as { m.push ⟨[], []⟩ with ro := m.acts.length, lro := m.loops.length } with
 | none => rw [hc] at e; cases e
 | some p =>
  rw [hc] at e
  obtain ⟨n, hn⟩ := callL_iff.1 hc
  exact ⟨n, by rw [hn]; exact e⟩
theorem callbOp_cont {m : Sig} {f : FuncId} {as : List AV} {r : AV × Sig} (e : callbOp (callL AP) m f as = some r) : ∃ n, callbOp (callN AP n) m f as = some r := by
 unfold callbOp at e ⊢
 cases hc : callL AP (.fn f) as { m.push ⟨[], []⟩ with ro := m.acts.length, lro := m.loops.length } with
 | none => rw [hc] at e; cases e
 | some p =>
  rw [hc] at e
  obtain ⟨n, hn⟩ := callL_iff.1 hc
  exact ⟨n, by rw [hn]; exact e⟩
theorem callqOp_cont {m : Sig} {t : Target} {as : List AV} {ws : List (Bool × Nat × AV)} {r : AV × Sig} (e : callqOp (callL AP) m t as ws = some r) : ∃ n, callqOp (callN AP n) m t as ws = some r := by
 obtain ⟨h1, h2⟩ := callqOp_iff.1 e
 obtain ⟨n, hn⟩ := callL_iff.1 h1
 exact ⟨n, callqOp_iff.2 ⟨hn, h2⟩⟩
theorem fills_cont {ro : Bool} {t : Target} {as : List AV} {M : List (List AV) → Sig} {R : List (List AV) → AV × Sig} : ∀ {l : List (List (List AV))}, (∀ bx, bx ∈ l → doCall (callL AP) ro (M bx) t as = some (R bx)) → ∃ n, ∀ bx, bx ∈ l → doCall (callN AP n) ro (M bx) t as = some (R bx)
 | [], _ => ⟨0, fun _ h => by cases h⟩
 | b :: l, h => by
  obtain ⟨n1, k1⟩ := doCall_cont (h b (by simp))
  obtain ⟨n2, k2⟩ := fills_cont (l := l) fun bx hb => h bx (List.mem_cons_of_mem _ hb)
  refine ⟨n1 + n2, fun bx hb => ?_⟩
  rcases List.mem_cons.1 hb with rfl | hb
  ·exact doCall_mono (callN_mono (by omega)) k1
  ·exact doCall_mono (callN_mono (by omega)) (k2 bx hb)
theorem fcallOp_cont {ro : Bool} {m : Sig} {zs : List (List AV)} {t : Target} {as : List AV} {r : AV × Sig} (e : fcallOp (callL AP) ro m zs t as = some r) : ∃ n, fcallOp (callN AP n) ro m zs t as = some r := by
 obtain ⟨h1, h2, h3, h4⟩ := fcallOp_iff.1 e
 obtain ⟨n1, k1⟩ := doCall_cont h1
 obtain ⟨n3, k3⟩ := fills_cont h3
 exact ⟨n1 + n3, fcallOp_iff.2 ⟨doCall_mono (callN_mono (by omega)) k1, h2, fun bx hb => doCall_mono (callN_mono (by omega)) (k3 bx hb), h4⟩⟩
theorem opv_cont {ρ : AOpd → AV} {m : Sig} {op : AOp} {r : AV × Sig} (e : opv (callL AP) ρ m op = some r) : ∃ n, opv (callN AP n) ρ m op = some r := by
  cases op <;> first
    | exact ⟨0, e⟩
    | exact doCall_cont e
    | exact calloOp_cont e
    | exact fcallOp_cont e
    | exact callbOp_cont e
    | exact callqOp_cont e
    | (simp only [opv, callvOp] at e ⊢
       split at e
       · exact doCall_cont e
       · exact doCall_cont e
       · cases e)
theorem ops_cont : ∀ {l : List AOper} {st r : St}, ops (callL AP) l st = some r → ∃ n, ops (callN AP n) l st = some r
 | [], st, r, e => ⟨0, e⟩
 | o :: l, st, r, e => by
  unfold ops at e
  split at e
  ·rename_i hw
   split at e
   ·rename_i x m hv
    obtain ⟨n1, h1⟩ := opv_cont hv
    obtain ⟨n2, h2⟩ := ops_cont e
    refine ⟨max n1 n2, ?_⟩
    unfold ops
    rw [if_pos hw, opv_mono (callN_mono (Nat.le_max_left n1 n2)) h1]
    exact ops_mono (callN_mono (Nat.le_max_right n1 n2)) h2
   ·cases e
  ·rename_i hw
   obtain ⟨n2, h2⟩ := ops_cont e
   refine ⟨n2, ?_⟩
   unfold ops
   rw [if_neg hw]
   exact h2
theorem opt_ext {α : Type} {x y : Option α} (h : ∀ r, x = some r ↔ y = some r) : x = y := by
 cases hx : x with
 | some a => exact ((h a).1 hx).symm
 | none =>
  cases hy : y with
  | none => rfl
  | some b => have := (h b).2 hy; rw [hx] at this; cases this
theorem runL_of {c : ACode} {st : St} {r : AExit × St} {n : Nat} (h : exec (callN AP n) n c st = some r) : runL AP c st = some r := runL_iff.2 ⟨n, h⟩
theorem runL_skip (st : St) : runL AP .skip st = some (.normal, st) := runL_of (n := 0) rfl
theorem runL_exit (id : Nat) (st : St) : runL AP (.exit id) st = some (.exit id, st) := runL_of (n := 0) rfl
theorem runL_ret (st : St) : runL AP .ret st = some (.ret, st) := runL_of (n := 0) rfl
theorem runL_region (d : Bool) (l : List AOper) (st : St) : runL AP (.region d l) st = (ops (callL AP) l st).map (AExit.normal, ·) := by
 refine opt_ext fun r => ⟨fun h => ?_, fun h => ?_⟩
 ·obtain ⟨n, hn⟩ := runL_iff.1 h
  simp only [exec] at hn
  obtain ⟨p, hp, rfl⟩ := Option.map_eq_some_iff.1 hn
  rw [ops_mono (callN_L n) hp]
  rfl
 ·obtain ⟨p, hp, rfl⟩ := Option.map_eq_some_iff.1 h
  obtain ⟨n, hn⟩ := ops_cont hp
  exact runL_of (n := n) (by simp only [exec, hn]; rfl)
theorem runL_seq (a b : ACode) (st : St) : runL AP (.seq a b) st = match runL AP a st with
  | some (.normal, st') => runL AP b st'
  | r => r := by
 refine opt_ext fun r => ⟨fun h => ?_, fun h => ?_⟩
 ·obtain ⟨n, hn⟩ := runL_iff.1 h
  simp only [exec] at hn
  split at hn
  ·rename_i st1 h1
   rw [runL_of h1]
   exact runL_of hn
  ·rename_i hne
   rw [runL_of hn]
   split
   ·rename_i st1 heq
    exact absurd (hn.trans heq) (hne _)
   ·rfl
 ·split at h
  ·rename_i st1 h1
   obtain ⟨n1, e1⟩ := runL_iff.1 h1
   obtain ⟨n2, e2⟩ := runL_iff.1 h
   refine runL_of (n := max n1 n2) ?_
   simp only [exec, execN_mono (Nat.le_max_left n1 n2) e1]
   exact execN_mono (Nat.le_max_right n1 n2) e2
  ·rename_i hne
   obtain ⟨n, hn⟩ := runL_iff.1 h
   refine runL_of (n := n) ?_
   simp only [exec, hn]
   split
   ·rename_i st1 heq
    exact absurd (h.trans heq) (hne _)
   ·rfl
theorem runL_cond (c : AOpd) (a b : ACode) (st : St) : runL AP (.cond c a b) st = match evalT st.tmps c with
  | .v (.bool t) => if t then runL AP a st else runL AP b st
  | _ => none := by
 refine opt_ext fun r => ⟨fun h => ?_, fun h => ?_⟩
 ·obtain ⟨n, hn⟩ := runL_iff.1 h
  simp only [exec] at hn
  split at hn
  ·rename_i t ht
   rw [ht]
   simp only
   split
   ·rw [if_pos (by assumption)] at hn; exact runL_of hn
   ·rw [if_neg (by assumption)] at hn; exact runL_of hn
  ·cases hn
 ·split at h
  ·rename_i t ht
   split at h
   ·rename_i hb
    obtain ⟨n, hn⟩ := runL_iff.1 h
    exact runL_of (n := n) (by simp only [exec, ht, if_pos hb, hn])
   ·rename_i hb
    obtain ⟨n, hn⟩ := runL_iff.1 h
    exact runL_of (n := n) (by simp only [exec, ht, if_neg hb, hn])
  ·cases h
theorem runL_block (id : Nat) (a : ACode) (st : St) : runL AP (.block id a) st = match runL AP a st with
  | some (.exit j, st') => if j = id then some (.normal, st') else some (.exit j, st')
  | r => r := by
 refine opt_ext fun r => ⟨fun h => ?_, fun h => ?_⟩
 ·obtain ⟨n, hn⟩ := runL_iff.1 h
  simp only [exec] at hn
  split at hn
  ·rename_i j st1 h1
   rw [runL_of h1]
   exact hn
  ·rename_i hne
   rw [runL_of hn]
   split
   ·rename_i j st1 heq
    exact absurd (hn.trans heq) (hne _ _)
   ·rfl
 ·split at h
  ·rename_i j st1 h1
   obtain ⟨n1, e1⟩ := runL_iff.1 h1
   refine runL_of (n := n1) ?_
   simp only [exec, e1]
   exact h
  ·rename_i hne
   obtain ⟨n, hn⟩ := runL_iff.1 h
   refine runL_of (n := n) ?_
   simp only [exec, hn]
   split
   ·rename_i j st1 heq
    exact absurd (h.trans heq) (hne _ _)
   ·rfl
theorem runL_loop (a : ACode) (st : St) : runL AP (.loop a) st = match runL AP a st with
  | some (.normal, st') => runL AP (.loop a) st'
  | r => r := by
 refine opt_ext fun r => ⟨fun h => ?_, fun h => ?_⟩
 ·obtain ⟨n, hn⟩ := runL_iff.1 h
  simp only [exec] at hn
  obtain ⟨m, rfl⟩ : ∃ m, n = m + 1 := by
   cases n with
   | zero => simp [loopN] at hn
   | succ m => exact ⟨m, rfl⟩
  rw [loopN] at hn
  split at hn
  ·rename_i st1 h1
   rw [runL_of h1]
   refine runL_of (n := m + 1) ?_
   simp only [exec]
   exact loopN_mono (fun _ _ e => e) (Nat.le_succ m) hn
  ·rename_i hne
   rw [runL_of hn]
   split
   ·rename_i st1 heq
    exact absurd (hn.trans heq) (hne _)
   ·rfl
 ·split at h
  ·rename_i st1 h1
   obtain ⟨n1, e1⟩ := runL_iff.1 h1
   obtain ⟨n2, e2⟩ := runL_iff.1 h
   refine runL_of (n := max n1 n2 + 1) ?_
   simp only [exec, loopN]
   rw [execN_mono (by omega) e1]
   simp only [exec] at e2
   exact loopN_mono (fun st r e => execN_mono (by omega) e) (by omega) e2
  ·rename_i hne
   obtain ⟨n, hn⟩ := runL_iff.1 h
   refine runL_of (n := n + 1) ?_
   simp only [exec, loopN]
   rw [execN_mono (Nat.le_succ n) hn]
   split
   ·rename_i st1 heq
    exact absurd (h.trans heq) (hne _)
   ·rfl
theorem runL_rangeFunc (f : AOpd) (ps : List Nat) (a b : ACode) (st : St) : runL AP (.rangeFunc f ps a b) st = match evalT st.tmps f with
  | .fn g first caps => match callL AP (.fn g) (first ++ .yield st.sig.loops.length :: caps) (enterLoop st.sig ⟨true, none, st.tmps, ps, a, b⟩) with
   | some (_, s) => match leaveLoop s st.sig.loops.length with
    | some (e, s1) => some (e.getD .normal, ⟨st.tmps, s1⟩)
    | none => none
   | none => none
  | _ => none := by
 refine opt_ext fun r => ⟨fun h => ?_, fun h => ?_⟩
 ·obtain ⟨n, hn⟩ := runL_iff.1 h
  simp only [exec] at hn
  split at hn
  ·rename_i g first caps hf
   rw [hf]
   simp only
   split at hn
   ·rename_i x s hc
    rw [callL_iff.2 ⟨n, hc⟩]
    exact hn
   ·cases hn
  ·cases hn
 ·split at h
  ·rename_i g first caps hf
   split at h
   ·rename_i x s hc
    obtain ⟨n, hn⟩ := callL_iff.1 hc
    refine runL_of (n := n) ?_
    simp only [exec, hf, hn]
    exact h
   ·cases h
  ·cases h
theorem callL_of {t : Target} {as : List AV} {s : Sig} {r : AV × Sig} {n : Nat} (h : callStep AP (callN AP n) n t as s = some r) : callL AP t as s = some r := callL_iff.2 ⟨n + 1, h⟩
theorem callL_cases {t : Target} {as : List AV} {s : Sig} {r : AV × Sig} (h : callL AP t as s = some r) : ∃ n, callStep AP (callN AP n) n t as s = some r := by
 obtain ⟨n, hn⟩ := callL_iff.1 h
 cases n with
 | zero => simp [callN] at hn
 | succ n => exact ⟨n, hn⟩
theorem callL_fn {f : FuncId} {np nt : Nat} {b : ACode} {rs : List ARes} {own : Bool} (hf : AP f = some (.code np nt b rs own)) (as : List AV) (s : Sig) : callL AP (.fn f) as s = if as.length = np then
      match runL AP b ⟨argsT as, s.push ⟨[], []⟩⟩ with
      | some (.normal, st) | some (.ret, st) => finish rs own st
      | _ => none
    else none := by
  refine opt_ext fun r => ⟨fun h => ?_, fun h => ?_⟩
  · obtain ⟨n, hn⟩ := callL_cases h
    simp only [callStep, hf] at hn
    split at hn
    · rename_i hl
      rw [if_pos hl]
      split at hn
      · rename_i st h1; rw [runL_of h1]; exact hn
      · rename_i st h1; rw [runL_of h1]; exact hn
      · cases hn
    · cases hn
  · split at h
    · rename_i hl
      split at h
      · rename_i st h1
        obtain ⟨n, hn⟩ := runL_iff.1 h1
        exact callL_of (n := n) (by simp only [callStep, hf, if_pos hl, hn]; exact h)
      · rename_i st h1
        obtain ⟨n, hn⟩ := runL_iff.1 h1
        exact callL_of (n := n) (by simp only [callStep, hf, if_pos hl, hn]; exact h)
      · cases h
    · cases h
theorem callL_inl {f : FuncId} {np nt : Nat} {b : ACode} {rs : List ARes} {own : Bool} (hf : AP f = some (.code np nt b rs own)) (as : List AV) (s : Sig) : callL AP (.inl f) as s = if as.length = np ∧ s.ro < s.acts.length then
      match runL AP b ⟨argsT as, s⟩ with
      | some (.normal, st) | some (.ret, st) => (rawsOf st rs).map fun l => (packed l, st.sig)
      | _ => none
    else none := by
  refine opt_ext fun r => ⟨fun h => ?_, fun h => ?_⟩
  · obtain ⟨n, hn⟩ := callL_cases h
    simp only [callStep, hf] at hn
    split at hn
    · rename_i hl
      rw [if_pos hl]
      split at hn
      · rename_i st h1; rw [runL_of h1]; exact hn
      · rename_i st h1; rw [runL_of h1]; exact hn
      · cases hn
    · cases hn
  · split at h
    · rename_i hl
      split at h
      · rename_i st h1
        obtain ⟨n, hn⟩ := runL_iff.1 h1
        exact callL_of (n := n) (by simp only [callStep, hf, if_pos hl, hn]; exact h)
      · rename_i st h1
        obtain ⟨n, hn⟩ := runL_iff.1 h1
        exact callL_of (n := n) (by simp only [callStep, hf, if_pos hl, hn]; exact h)
      · cases h
    · cases h
def endRound (l : Nat) : Option (AExit × St) → Option (AV × Sig)
 | some (.normal, st') => some (AV.bool true, (setLoop st'.sig l fun p => { p with ready := true, pend := none }).pop)
 | some (e, st') => some (AV.bool false, (setLoop st'.sig l fun p => { p with ready := false, pend := some e }).pop)
 | none => none
theorem callL_yield (l : Nat) (as : List AV) (s : Sig) : callL AP (.yield l) as s = match s.loops[l]? with
  | some lp =>
   if lp.ready = true ∧ s.lro ≤ l ∧ as.length = lp.params.length then
    match runL AP lp.assign ⟨setParams lp.tmps lp.params as, s.push ⟨[], []⟩⟩ with
    | some (.normal, st) => if loopReady st.sig l = true then endRound l (runL AP lp.body ⟨st.tmps, setLoop st.sig l fun p => { p with ready := false }⟩) else none
    | _ => none
   else none
  | none => none := by
 refine opt_ext fun r => ⟨fun h => ?_, fun h => ?_⟩
 ·obtain ⟨n, hn⟩ := callL_cases h
  simp only [callStep] at hn
  split at hn
  ·rename_i lp hlp
   split at hn
   ·rename_i hcond
    rw [hlp]
    simp only
    rw [if_pos hcond]
    split at hn
    ·rename_i st h1
     rw [runL_of h1]
     simp only
     split at hn
     ·rename_i hr
      rw [if_pos hr]
      split at hn
      ·rename_i st' h2
       rw [runL_of h2]
       exact hn
      ·rename_i e st' hne h2
       rw [runL_of h2]
       cases e with
       | normal => exact absurd rfl hne
       | exit id => exact hn
       | ret => exact hn
      ·cases hn
     ·cases hn
    ·cases hn
   ·cases hn
  ·cases hn
 ·split at h
  ·rename_i lp hlp
   split at h
   ·rename_i hcond
    split at h
    ·rename_i st h1
     split at h
     ·rename_i hr
      obtain ⟨n1, e1⟩ := runL_iff.1 h1
      cases hb : runL AP lp.body ⟨st.tmps, setLoop st.sig l fun p => { p with ready := false }⟩ with
      | none => rw [hb] at h; cases h
      | some q =>
       obtain ⟨e, st'⟩ := q
       obtain ⟨n2, e2⟩ := runL_iff.1 hb
       rw [hb] at h
       refine callL_of (n := max n1 n2) ?_
       simp only [callStep, hlp, if_pos hcond, execN_mono (Nat.le_max_left n1 n2) e1, if_pos hr, execN_mono (Nat.le_max_right n1 n2) e2]
       cases e <;> exact h
     ·cases h
    ·cases h
   ·cases h
  ·cases h
end
end Go.Ax

/-
  A call's arguments as the executor has them: from the row's reading.
-/
namespace Go.Ax
open Go.ChangeShapes Go.WideShapes
def tileT (P : Program) (ok : TypeId → Bool) (size : Nat) : Nat → List Field → Bool
 | off, [] => decide (off = size)
 | off, f :: r => decide (f.offset = off) && ok f.type && tileT P ok size (off + P.cellsOf f.type) r
def okT (P : Program) : Nat → TypeId → Bool
 | 0, _ => false
 | d + 1, t => match P.underlying t with
  | some .bool | some (.int _) | some .string => decide (P.cellsOf t = 1)
  | some (.slice e) => decide (P.cellsOf t = 1) && decide (0 < P.cellsOf e) && okT P d e
  | some (.struct fs) => tileT P (okT P d) (P.cellsOf t) 0 fs.toList
  | some (.array n e) => decide (n * P.cellsOf e = P.cellsOf t) && okT P d e
  | _ => false
def Shp (P : Program) : Nat → TypeId → List AV → Prop
 | 0, _, _ => False
 | d + 1, t, avs => match P.underlying t with
  | some .bool => ∃ b, avs = [.v (.bool b)]
  | some (.int k) => ∃ x, avs = [.v (.int k x)] ∧ (Lit.int k x).wf = true
  | some .string => ∃ s : ByteArray, avs = [.v (.string s)] ∧ s.size ≤ maxLen
  | some (.slice e) => ∃ o rows, avs = [.slice o (P.cellsOf e) rows] ∧ (o = .any ∨ (o = .nilS ∧ rows = [])) ∧ rows.length ≤ maxLen ∧ (∀ r ∈ rows, r.length = P.cellsOf e ∧ Shp P d e r) ∧ rows.length * P.bytesOf e ≤ reachBytes
  | some (.struct fs) => ∃ ps : List (List AV), avs = ps.flatten ∧ ps.length = fs.size ∧ ∀ (i : Nat) (f : Field) (p : List AV), fs[i]? = some f → ps[i]? = some p → p.length = P.cellsOf f.type ∧ Shp P d f.type p
  | some (.array n e) => ∃ ps : List (List AV), avs = ps.flatten ∧ ps.length = n ∧ ∀ p ∈ ps, p.length = P.cellsOf e ∧ Shp P d e p
  | _ => False
structure RL (w : World) (avs : List AV) (cs : List Value) : Prop where
 len : avs.length = cs.length
 get : ∀ (i : Nat) (a : AV) (c : Value), avs[i]? = some a → cs[i]? = some c → Reads w a c ∧ a.isCell = true
theorem RL.nil {w : World} : RL w [] [] := ⟨rfl, fun i a c h => by simp at h⟩
theorem RL.one {w : World} {a : AV} {c : Value} (h : Reads w a c) (hc : a.isCell = true) : RL w [a] [c] := ⟨rfl, fun i x y h1 h2 => by
 cases i with
 | zero => simp at h1 h2; subst h1 h2; exact ⟨h, hc⟩
 | succ i => simp at h1⟩
theorem RL.append {w : World} {a b : List AV} {c d : List Value} (h : RL w a c) (k : RL w b d) : RL w (a ++ b) (c ++ d) := ⟨by simp [h.len, k.len], fun i x y h1 h2 => by
 by_cases hi : i < a.length
 ·rw [List.getElem?_append_left hi] at h1
  rw [List.getElem?_append_left (by rw [← h.len]; exact hi)] at h2
  exact h.get i x y h1 h2
 ·rw [List.getElem?_append_right (by omega)] at h1
  rw [List.getElem?_append_right (by rw [← h.len]; omega), ← h.len] at h2
  exact k.get _ x y h1 h2⟩
section
variable {H : Type} {enc : TypeId × Value → H} {P : Program} {w : World}
theorem take_app_drop {α : Type} (l : List α) (off n : Nat) : (l.drop off).take n ++ l.drop (off + n) = l.drop off := by
 rw [← List.drop_drop]; exact List.take_append_drop _ _
theorem open_fields {d size : Nat} {cs : List Value} {n : Nat} (ih : ∀ (t : TypeId) (fuel : Nat) (cs : List Value) (x : DataW H × List MemPlace), okT P d t = true → DataW.trod enc P w 0 (fun _ => true) true fuel t cs = some x → (∀ n ∈ x.1.weights P t, n ≤ reachBytes) → ∃ avs, RL w avs cs ∧ cs.length = P.cellsOf t ∧ Shp P d t avs) (hl : cs.length = size) :
  ∀ (fs : List Field) (off : Nat), tileT P (okT P d) size off fs = true → (∀ f ∈ fs, ∃ y, DataW.trod enc P w 0 (fun _ => true) true n f.type ((cs.drop f.offset).take (P.cellsOf f.type)) = some y ∧ ∀ n ∈ y.1.weights P f.type, n ≤ reachBytes) →
   ∃ ps : List (List AV), RL w ps.flatten (cs.drop off) ∧ ps.length = fs.length ∧ ∀ (i : Nat) (f : Field) (p : List AV), fs[i]? = some f → ps[i]? = some p → p.length = P.cellsOf f.type ∧ Shp P d f.type p
 | [], off, ht, _ => by
  have : off = size := by simpa [tileT] using ht
  subst this
  refine ⟨[], ?_, rfl, fun i f p h => by simp at h⟩
  rw [← hl, List.drop_length]; exact .nil
 | f :: r, off, ht, hf => by
  simp only [tileT, Bool.and_eq_true, decide_eq_true_eq] at ht
  obtain ⟨⟨rfl, hok⟩, hr⟩ := ht
  obtain ⟨y, hy, hyw⟩ := hf f (List.mem_cons_self ..)
  obtain ⟨avs, h1, h2, h3⟩ := ih _ _ _ _ hok hy hyw
  obtain ⟨ps, k1, k2, k3⟩ := open_fields ih hl r _ hr (fun g hg => hf g (List.mem_cons_of_mem _ hg))
  refine ⟨avs :: ps, ?_, by simp [k2], fun i g p hg hp => ?_⟩
  ·rw [List.flatten_cons, ← take_app_drop cs f.offset (P.cellsOf f.type)]
   exact h1.append k1
  ·cases i with
   | zero => simp at hg hp; subst hg hp; exact ⟨by rw [h1.len, h2], h3⟩
   | succ i => simp at hg hp; exact k3 i g p hg hp
theorem open_elems {d : Nat} {cs : List Value} {n : Nat} {e : TypeId} (ih : ∀ (t : TypeId) (fuel : Nat) (cs : List Value) (x : DataW H × List MemPlace), okT P d t = true → DataW.trod enc P w 0 (fun _ => true) true fuel t cs = some x → (∀ n ∈ x.1.weights P t, n ≤ reachBytes) → ∃ avs, RL w avs cs ∧ cs.length = P.cellsOf t ∧ Shp P d t avs) (hok : okT P d e = true) :
  ∀ (k i : Nat), cs.length = (i + k) * P.cellsOf e → (∀ j, i ≤ j → j < i + k → ∃ y, DataW.trod enc P w 0 (fun _ => true) true n e ((cs.drop (j * P.cellsOf e)).take (P.cellsOf e)) = some y ∧ ∀ n ∈ y.1.weights P e, n ≤ reachBytes) →
   ∃ ps : List (List AV), RL w ps.flatten (cs.drop (i * P.cellsOf e)) ∧ ps.length = k ∧ ∀ p ∈ ps, p.length = P.cellsOf e ∧ Shp P d e p
 | 0, i, hl, _ => by
  refine ⟨[], ?_, rfl, fun p h => by simp at h⟩
  rw [show i * P.cellsOf e = cs.length by rw [hl]; simp, List.drop_length]; exact .nil
 | k + 1, i, hl, hf => by
  obtain ⟨y, hy, hyw⟩ := hf i (Nat.le_refl _) (by omega)
  obtain ⟨avs, h1, h2, h3⟩ := ih _ _ _ _ hok hy hyw
  obtain ⟨ps, k1, k2, k3⟩ := open_elems ih hok k (i + 1) (by rw [hl]; congr 1; omega) (fun j h1 h2 => hf j (by omega) (by omega))
  refine ⟨avs :: ps, ?_, by simp [k2], fun p hp => ?_⟩
  ·rw [List.flatten_cons, ← take_app_drop cs (i * P.cellsOf e) (P.cellsOf e)]
   rw [Nat.succ_mul] at k1
   exact h1.append k1
  ·rcases List.mem_cons.1 hp with rfl | hp
   ·exact ⟨by rw [h1.len, h2], h3⟩
   ·exact k3 p hp
theorem weights_all {e : TypeId} : ∀ {l : List (DataW H)} {d : DataW H}, d ∈ l → ∀ n ∈ d.weights P e, n ∈ DataW.weightsAll P e l
 | x :: l, d, h, n, hn => by
  simp only [DataW.weightsAll, List.mem_append]
  rcases List.mem_cons.1 h with rfl | h
  ·exact .inl hn
  ·exact .inr (weights_all h n hn)
 | [], d, h, _, _ => by cases h
theorem open_type : ∀ (d : Nat) (t : TypeId) (fuel : Nat) (cs : List Value) (x : DataW H × List MemPlace), okT P d t = true → DataW.trod enc P w 0 (fun _ => true) true fuel t cs = some x → (∀ n ∈ x.1.weights P t, n ≤ reachBytes) →
    ∃ avs, RL w avs cs ∧ cs.length = P.cellsOf t ∧ Shp P d t avs
  | 0, t, fuel, cs, x, h, _, _ => by simp [okT] at h
  | d + 1, t, fuel, cs, x, hok, h, hwt => by
    have ih := open_type d
    unfold okT at hok
    cases hu : P.underlying t with
    | none => rw [hu] at hok; cases hok
    | some u =>
      rw [hu] at hok
      cases u with
      | bool =>
        obtain ⟨b, rfl, _⟩ := DataW.trod_bool hu h
        exact ⟨[.v (.bool b)], .one (.v rfl) rfl, by simp only [decide_eq_true_eq] at hok; simp [hok], by simp only [Shp, hu]; exact ⟨b, rfl⟩⟩
      | int k =>
        obtain ⟨n, rfl, _, hw⟩ := DataW.trod_int hu h
        exact ⟨[.v (.int k n)], .one (.v rfl) rfl, by simp only [decide_eq_true_eq] at hok; simp [hok], by simp only [Shp, hu]; exact ⟨n, rfl, hw⟩⟩
      | string =>
        obtain ⟨s, rfl, _, hw⟩ := DataW.trod_string hu h
        exact ⟨[.v (.string s)], .one (.v rfl) rfl, by simp only [decide_eq_true_eq] at hok; simp [hok], by simp only [Shp, hu]; exact ⟨s, rfl, hw⟩⟩
      | struct fs =>
        obtain ⟨xs, n, _, hxe, hl, hxl, hget⟩ := DataW.trod_struct hu h
        subst hxe
        have hwt : ∀ n ∈ DataW.weightsEach P (fs.toList.map (·.type)) (xs.map (·.1)), n ≤ reachBytes := fun n hn => hwt n (by simpa [DataW.weights, hu] using hn)
        obtain ⟨ps, k1, k2, k3⟩ := open_fields ih hl fs.toList 0 hok (fun f hf => by
          obtain ⟨i, hi⟩ := List.getElem?_of_mem hf
          have hi' : fs[i]? = some f := by simpa using hi
          have hlt : i < xs.length := by
            have := (List.getElem?_eq_some_iff.1 hi).1
            rw [hxl]; simpa using this
          exact ⟨xs[i], by rw [hget i f hi', List.getElem?_eq_getElem hlt], fun n hn => hwt n (DataW.weights_mem_each (j := i) (t := f.type) (d := xs[i].1) (by rw [List.getElem?_map, hi]; rfl) (by rw [List.getElem?_map, List.getElem?_eq_getElem hlt]; rfl) n hn)⟩)
        exact ⟨ps.flatten, by simpa using k1, hl, by simp only [Shp, hu]; exact ⟨ps, rfl, by simpa using k2, fun i f p hf hp => k3 i f p (by simpa using hf) hp⟩⟩
      | array n e =>
        simp only [Bool.and_eq_true, decide_eq_true_eq] at hok
        obtain ⟨xs, m, _, hxe, hl, hxl, hget⟩ := DataW.trod_array hu h
        subst hxe
        have hwt : ∀ n ∈ DataW.weightsAll P e (xs.map (·.1)), n ≤ reachBytes := fun n hn => hwt n (by simpa [DataW.weights, hu] using hn)
        obtain ⟨ps, k1, k2, k3⟩ := open_elems (n := m) (cs := cs) ih hok.2 n 0 (by rw [hl, ← hok.1, Nat.zero_add]) (fun j _ hj => by
          have hlt : j < xs.length := by omega
          exact ⟨xs[j], by rw [hget j (by omega), List.getElem?_eq_getElem hlt], fun n hn => hwt n (weights_all (List.mem_map.2 ⟨xs[j], List.getElem_mem hlt, rfl⟩) n hn)⟩)
        exact ⟨ps.flatten, by simpa using k1, hl, by simp only [Shp, hu]; exact ⟨ps, rfl, k2, k3⟩⟩
      | slice e =>
        simp only [Bool.and_eq_true, decide_eq_true_eq] at hok
        obtain ⟨⟨hc1, hpos⟩, hoke⟩ := hok
        rcases Deep.open_slice hu h with ⟨rfl, _⟩ | ⟨a, len, cap, m, n, D, Pl, rfl, _, hlc, hcm, hm, hxe, hx⟩
        · exact ⟨[.slice .nilS (P.cellsOf e) []], .one .nilS rfl, by simp [hc1], by simp only [Shp, hu]; exact ⟨_, _, rfl, .inr ⟨rfl, rfl⟩, by simp, fun r hr => by simp at hr, by simp⟩⟩
        · subst hxe
          have hwt2 : ∀ n, n = ((((List.range len).map D).length + ((List.range (m - len)).map fun j => D (len + j)).length) * P.bytesOf e) ∨ n ∈ DataW.weightsAll P e ((List.range len).map D) → n ≤ reachBytes := fun n hn => hwt n (by
            simp only [DataW.weights, hu, List.mem_cons, List.mem_append]
            rcases hn with hn | hn
            · exact .inl hn
            · exact .inr (.inl hn))
          simp only [if_true] at hm
          have hm' : cap = m := hm.symm
          subst hm'
          by_cases h0 : cap = 0
          · subst h0
            have : len = 0 := by omega
            subst this
            exact ⟨[.slice .any (P.cellsOf e) []], .one (.empty (.inl rfl)) rfl, by simp [hc1], by simp only [Shp, hu]; exact ⟨_, _, rfl, .inl rfl, by simp, fun r hr => by simp at hr, by simp⟩⟩
          · obtain ⟨blk, off, spot⟩ := a
            have hspot : spot = none := by
              obtain ⟨cs', h1, _⟩ := hx 0 (by omega)
              obtain ⟨_, hl', hg⟩ := World.cells?_some h1
              have := hg 0 hpos
              rw [List.getElem?_eq_getElem (by omega)] at this
              simpa [Addr.add] using World.cell?_spot this
            subst hspot
            obtain ⟨F, hF⟩ := Deep.choose_lt (α := List AV × List Value) (n := len) (p := fun i q => w.cells? 0 ((⟨blk, off, none⟩ : Addr).add (i * P.cellsOf e)) (P.cellsOf e) = some q.2 ∧ RL w q.1 q.2 ∧ q.2.length = P.cellsOf e ∧ Shp P d e q.1) (fun i hi => by
              obtain ⟨cs', h1, h2⟩ := hx i (by omega)
              obtain ⟨avs, k1, k2, k3⟩ := ih _ _ _ _ hoke h2 (fun n hn => hwt2 n (.inr (weights_all (List.mem_map.2 ⟨i, List.mem_range.2 hi, rfl⟩) n hn)))
              exact ⟨(avs, cs'), h1, k1, k2, k3⟩)
            have hrows : ∀ i (hi : i < ((List.range len).map fun i => (F i).1).length), ((List.range len).map fun i => (F i).1)[i] = (F i).1 := fun i hi => by simp
            have hcell : ∀ i, i < len → ∀ j, j < P.cellsOf e → w.cell? ⟨blk, off + i * P.cellsOf e + j, none⟩ = (F i).2[j]? := by
              intro i hi j hj
              obtain ⟨_, _, hg⟩ := World.cells?_some (hF i hi).1
              have := hg j hj
              rw [add_plain, add_plain] at this
              exact this
            refine ⟨[.slice .any (P.cellsOf e) ((List.range len).map fun i => (F i).1)], .one ?_ rfl, by simp [hc1], ?_⟩
            · have hlen : ((List.range len).map fun i => (F i).1).length = len := by simp
              have := RelC.slice (I := fun b i => w.cell? ⟨b, i, none⟩) (o := .any) (es := P.cellsOf e) (xs := (List.range len).map fun i => (F i).1) (blk := blk) (off := off) (cap := cap) (fun i j => ((F i).2).getD j Go.undef) (.inl rfl) (by rw [hlen]; exact hlc)
                (fun r hr => by
                  obtain ⟨i, hi, rfl⟩ := List.mem_map.1 hr
                  have := hF i (by simpa using hi)
                  rw [this.2.1.len, this.2.2.1])
                (fun r hr c hc => by
                  obtain ⟨i, hi, rfl⟩ := List.mem_map.1 hr
                  have hFi := hF i (by simpa using hi)
                  obtain ⟨j, hj⟩ := List.getElem?_of_mem hc
                  have hjl := (List.getElem?_eq_some_iff.1 hj).1
                  exact (hFi.2.1.get j c ((F i).2[j]'(by rw [← hFi.2.1.len]; exact hjl)) hj (List.getElem?_eq_getElem _)).2)
                (fun i hi j hj => by
                  have hi' : i < len := by simpa using hi
                  have hFi := hF i hi'
                  rw [hrows i hi] at hj
                  have hj' : j < (F i).2.length := by rw [← hFi.2.1.len]; exact hj
                  rw [hcell i hi' j (by rw [← hFi.2.2.1]; exact hj'), List.getElem?_eq_getElem hj']
                  simp [List.getD, List.getElem?_eq_getElem hj'])
                (fun i hi j hj => by
                  have hi' : i < len := by simpa using hi
                  have hFi := hF i hi'
                  have hj2 : j < (F i).1.length := by rw [hrows i hi] at hj; exact hj
                  have hj' : j < (F i).2.length := by rw [← hFi.2.1.len]; exact hj2
                  have hg := (hFi.2.1.get j ((F i).1[j]) ((F i).2[j]) (List.getElem?_eq_getElem hj2) (List.getElem?_eq_getElem hj')).1
                  have e1 : ((List.range len).map fun i => (F i).1)[i][j] = (F i).1[j] := by simp
                  rw [e1, show ((F i).2).getD j Go.undef = (F i).2[j] by simp [List.getD, List.getElem?_eq_getElem hj']]
                  exact hg)
              rw [hlen] at this
              exact this
            · simp only [Shp, hu]
              exact ⟨_, _, rfl, .inl rfl, by simp; omega, fun r hr => by
                obtain ⟨i, hi, rfl⟩ := List.mem_map.1 hr
                have hFi := hF i (by simpa using hi)
                exact ⟨by rw [hFi.2.1.len, hFi.2.2.1], hFi.2.2.2⟩, by
                have := hwt2 _ (.inl rfl)
                simp only [List.length_map, List.length_range] at this ⊢
                exact Nat.le_trans (Nat.mul_le_mul_right _ (by omega)) this⟩
      | _ => cases hok
end
end Go.Ax
