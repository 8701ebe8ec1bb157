/-
  Code.
-/
import Derived.Test.YtfmojojicndbcaaAxU
namespace Go.Ax
open Go.RowKit

def exitOf : AExit → Exit
  | .normal => .normal
  | .exit id => .exit id
  | .ret => .ret

section
variable {P : Program} {B0 : Nat} {w0 : World} {G : Ghost} {k nl : Nat} {w : World} {s : Sig}

/-- In a round: the loop is one that the activation knows. -/
def RoundAt (rd : Option Nat) (G : Ghost) (nl : Nat) : Prop := ∀ r, rd = some r → ∃ l : Nat, l < nl ∧ G.loops[l]? = some r

/-- The activation's deferred calls: the marks of its loops. -/
def Defs (rd : Option Nat) (G : Ghost) (k : Nat) (a : Act) : Prop := rd = none → ∃ gr, G.acts[k]? = some gr ∧ a.defers = (gr.marks.map fun b => (⟨.collected b, #[]⟩ : Deferred)).reverse

def ExecPost (P : Program) (B0 : Nat) (w0 : World) (rd : Option Nat) (G : Ghost) (k nl : Nat) (a : Act) (e : AExit) (st' : St) : Exit → Act → World → Prop := fun x a' w' =>
  x = exitOf e ∧ ∃ G', At P B0 w0 G' k nl st'.sig w' ∧ GLe k nl G G' ∧ st'.sig.loops.length = nl ∧ TmpsRel G' k nl st'.tmps a' ∧ a'.tmps.size = a.tmps.size ∧ Defs rd G' k a'

theorem RoundAt.mono {rd : Option Nat} {G' : Ghost} (h : RoundAt rd G nl) (hle : GLe k nl G G') : RoundAt rd G' nl := fun r e => by
  obtain ⟨l, h1, h2⟩ := h r e
  exact ⟨l, h1, hle.loops l r h1 h2⟩

theorem Defs.mono {rd : Option Nat} {G' : Ghost} {a a' : Act} (h : Defs rd G k a) (hle : GLe (k + 1) nl G G') (hd : a'.defers = a.defers) : Defs rd G' k a' := fun e => by
  obtain ⟨gr, h1, h2⟩ := h e
  obtain ⟨gr', g1, _, g3⟩ := hle.acts k gr (by omega) h1
  exact ⟨gr', g1, by rw [hd, h2, g3 (by omega)]⟩

/-- What lies behind the record of a new loop. -/
theorem entered {rd : Option Nat} {a : Act} (h : At P B0 w0 G k nl s w) (hll : s.loops.length = nl) (hrd : RoundAt rd G nl) (hdf : Defs rd G k a) (ps : Array Tmp) (assign body : Code) :
    ∃ wm Gm mark, At P B0 w0 Gm k nl s wm ∧ GLe k nl G Gm ∧ Gm.loops = G.loops ∧ Defs rd Gm k { a with defers := mark ++ a.defers } ∧ ∀ fn, ∃ rc : Loop, (Instr.enterLoop fn a.tmps ps assign body rd).run P w = .ok (wm.heap.size, mark) (wm.alloc (.loop rc)) ∧
      rc.state = .ready ∧ rc.pending = none ∧ rc.tmps = a.tmps ∧ rc.params = ps ∧ rc.assign = assign ∧ rc.body = body := by
  cases rd with
  | none =>
    obtain ⟨Gm, g1, g2, g3, gr, g4, g5⟩ := mark_sound h
    obtain ⟨gr', e1, e2⟩ := hdf rfl
    rw [g4] at e1
    injection e1 with e1
    subst e1
    refine ⟨_, Gm, [{ target := .collected w.heap.size, args := #[] }], g1, by rw [hll] at g2; exact g2, g3, fun _ => ⟨_, g5, ?_⟩, fun fn => ⟨{ state := .ready, pending := none, fn, tmps := a.tmps, params := ps, assign, body, defers := w.heap.size }, ?_, rfl, rfl, rfl, rfl, rfl, rfl⟩⟩
    · simp [e2]
    · have := run_enterLoop_outer (P := P) (w := w) fn a.tmps ps assign body
      rw [this]
      simp
  | some r0 =>
    obtain ⟨l, h1, h2⟩ := hrd r0 rfl
    have hlt : l < s.loops.length := by omega
    obtain ⟨_, _, rc0, h3, _⟩ := h.rel.loop l _ r0 (List.getElem?_eq_getElem hlt) h2
    refine ⟨w, G, [], h, .refl _ _ _, rfl, fun e => (by cases e), fun fn => ⟨{ state := .ready, pending := none, fn, tmps := a.tmps, params := ps, assign, body, defers := rc0.defers }, ?_, rfl, rfl, rfl, rfl, rfl, rfl⟩⟩
    have := run_getLoop (P := P) h3
    unfold Instr.enterLoop
    simp only [Sem.run_bind, this, run_newObj_alloc, Result.andThen, Sem.run_pure]

theorem rangeFunc_sound {call : CallF} (hcall : CallSound P B0 w0 call) {rd : Option Nat} {n : Nat} {f : Operand} {af : AOpd} {ps : Array Tmp} {assign body : Code} {aas ab : ACode} {st st' : St} {a : Act} {e : AExit} {lf : Nat}
    (h : At P B0 w0 G k nl st.sig w) (hll : st.sig.loops.length = nl) (hR : TmpsRel G k nl st.tmps a) (hrd : RoundAt rd G nl) (hdf : Defs rd G k a) (cf : compOpd f = some af) (ca : comp P assign = some aas) (cb : comp P body = some ab)
    (tp : ∀ p, p ∈ ps.toList → p < a.tmps.size) (ta : tmpsOk a.tmps.size aas = true) (tb : tmpsOk a.tmps.size ab = true) (he : exec call lf (.rangeFunc af ps.toList aas ab) st = some (e, st')) :
    (Code.rangeFunc f ps assign body).wpIn (fenceOf rd) n P (ExecPost P B0 w0 rd G k nl a e st') a w := by
  simp only [exec] at he
  split at he
  case h_2 => cases he
  rename_i g first caps hfn
  split at he
  case h_2 => cases he
  rename_i res s hc
  split at he
  case h_2 => cases he
  rename_i pe s1 hlv
  injection he with he
  injection he with he1 he2
  subst he1 he2
  rw [hll] at hc hlv
  have hfr := opd_rel cf hR
  rw [hfn] at hfr
  obtain ⟨a1, a2, hfv, l1, l2, r1, r2⟩ := hfr.inv_fn
  obtain ⟨wm, Gm, mark, m1, m2, m3, m4, m5⟩ := entered h hll hrd hdf ps assign body
  refine wpIn_rangeFunc fun fn _ => ?_
  obtain ⟨rc, q1, q2, q3, q4, q5, q6, q7⟩ := m5 fn
  obtain ⟨G1, e1, e2, e3, e4⟩ := enter_sound (lp := ⟨true, none, st.tmps, ps.toList, aas, ab⟩) (rc := rc) m1 hll ⟨q2, rfl, rfl, q3⟩ (by rw [q5]) (by rw [q6]; exact ca) (by rw [q7]; exact cb) (by rw [q4]; exact ta) (by rw [q4]; exact tb) (by rw [q4]; exact tp)
    (fun t => by rw [q4]; exact (hR t).mono m2 (Nat.le_refl _) (Nat.le_refl _))
  have hG1 : GLe k nl G G1 := m2.trans (e2.less (by omega) (Nat.le_refl _))
  have hgl : Gm.loops.length = nl := by rw [m1.rel.llen, hll]
  have hnew : G1.loops[nl]? = some wm.heap.size := by rw [e4, List.getElem?_append_right (by omega)]; simp [hgl]
  have hcs := hcall.fn G1 k (nl + 1) _ _ g (first ++ .yield nl :: caps) (a1 ++ #[.func (.yield wm.heap.size) #[] #[]] ++ a2) res s e1.rel (by simp [enterLoop, h.len]) (by simp [enterLoop, h.len]) (by simp [enterLoop, hll]) (by simp [l1, l2]; omega) (fun i hi => by
    rw [getD_append, getD_append]
    simp only [List.length_append, List.length_cons] at hi
    by_cases h1 : i < first.length
    · rw [if_pos (by simp; omega), if_pos (by omega)]
      have e : (first ++ AV.yield nl :: caps)[i] = first[i] := List.getElem_append_left h1
      rw [e]
      exact .cl ((r1 i h1).mono hG1.I)
    · by_cases h2 : i = first.length
      · subst h2
        rw [if_pos (by simp; omega), if_neg (by omega)]
        have e : (first ++ AV.yield nl :: caps)[first.length] = .yield nl := by
          rw [List.getElem_append_right (Nat.le_refl _)]
          simp
        have e' : (#[Value.func (.yield wm.heap.size) #[] #[]] : Array Value).getD (first.length - a1.size) Go.undef = .func (.yield wm.heap.size) #[] #[] := by rw [l1, Nat.sub_self]; rfl
        rw [e, e']
        exact .yield (by omega) hnew
      · rw [if_neg (by simp; omega)]
        have e : (first ++ AV.yield nl :: caps)[i] = caps[i - (first.length + 1)]'(by omega) := by
          rw [List.getElem_append_right (by omega)]
          have : i - first.length = (i - (first.length + 1)) + 1 := by omega
          simp only [this, List.getElem_cons_succ]
        have e' : (a1 ++ #[Value.func (.yield wm.heap.size) #[] #[]]).size = first.length + 1 := by simp [l1]
        rw [e, e']
        exact (r2 _ _).mono hG1 (Nat.le_refl _) (Nat.le_succ _)) hc
  obtain ⟨hbody, hcalls⟩ := hcs
  have hres : (resolve a.eval (rangeCall f wm.heap.size) 0).run P (wm.alloc (.loop rc)) = .ok { target := .fn (.func g) a2, args := a1 ++ #[.func (.yield wm.heap.size) #[] #[]] } (wm.alloc (.loop rc)) := by
    have hmap : (rangeCall f wm.heap.size).args.map a.eval = #[.func (.yield wm.heap.size) #[] #[]] := by simp [Act.eval]
    simp only [resolve, hfv, hmap, ofValue_run (P := P) rfl]
  refine ⟨_, mark, _, _, _, g, _, _, by rw [fenceOf_round]; exact q1, hres, fun f' _ => fenceOf_fn rd f', hbody.run _ _, (by rw [fenceOf_depth]; intro h; cases h), ?_⟩
  refine CallsIn.mono (fenceOf_calls rd hcalls) fun en w3 hen => ?_
  obtain ⟨z, rfl, G2, c1, c2, c3, c4, c5⟩ := hen
  have hat2 : At P B0 w0 G2 k nl s w3 := by
    have hl0 : (enterLoop st.sig ⟨true, none, st.tmps, ps.toList, aas, ab⟩).loops.length = nl + 1 := by simp [enterLoop, hll]
    exact e1.to c1 (c4.less (by omega) (by omega)) c2
  have hl2 : s.loops.length = nl + 1 := by rw [c3]; simp [enterLoop, hll]
  have hl0 : (enterLoop st.sig ⟨true, none, st.tmps, ps.toList, aas, ab⟩).loops.length = nl + 1 := by simp [enterLoop, hll]
  unfold leaveLoop at hlv
  rw [if_pos hl2] at hlv
  split at hlv
  case h_2 => cases hlv
  rename_i lp hlp
  split at hlv
  case isFalse => cases hlv
  rename_i hready
  injection hlv with hlv
  injection hlv with hv1 hv2
  subst hv1 hv2
  have hrec : G2.loops[nl]? = some wm.heap.size := c4.loops nl _ (by omega) hnew
  obtain ⟨b1, b2, rc2, b3, b4⟩ := c1.loop nl lp _ hlp hrec
  obtain ⟨o1, o2, o3, o4, _⟩ := b4
  have hbusy : rc2.state ≠ .busy := by
    rcases hready with hr | hr
    · rw [(o1 hr).1]; simp
    · cases hrr : lp.ready with
      | true => rw [(o1 hrr).1]; simp
      | false => rw [o2 hrr, if_pos hr]; simp
  have hend := run_endLoop (P := P) b3 hbusy
  obtain ⟨G3, d1, d2, d3⟩ := leave_sound (o' := .loop { rc2 with state := .exhausted }) hat2 hl2 hlp hrec b3
  have hG2 : GLe (k + 1) nl Gm G2 := e2.trans (c4.less (Nat.le_refl _) (by omega))
  have hG3 : GLe (k + 1) nl Gm G3 := hG2.trans d2
  have hGG : GLe k nl G G3 := m2.trans (hG3.less (by omega) (Nat.le_refl _))
  have hpost : ∀ ex, ex = exitOf (lp.pend.getD .normal) → ExecPost P B0 w0 rd G k nl a (lp.pend.getD .normal) ⟨st.tmps, { s with loops := s.loops.take nl }⟩ ex { a with defers := mark ++ a.defers } (w3.putObj wm.heap.size (.loop { rc2 with state := .exhausted })) := fun ex hex =>
    ⟨hex, G3, d1, hGG, by simp [hl2], fun t => (hR t).mono hGG (Nat.le_refl _) (Nat.le_refl _), rfl, m4.mono hG3 rfl⟩
  generalize w3.putObj wm.heap.size (.loop { rc2 with state := .exhausted }) = w4 at hpost hend
  refine ⟨rc2.pending, w4, hend, ?_⟩
  rw [o3]
  cases hpd : lp.pend with
  | none =>
    rw [hpd] at hpost
    exact hpost _ rfl
  | some pe =>
    rw [hpd] at hpost
    cases pe with
    | normal => exact absurd hpd o4
    | exit id => exact wpIn_exit (hpost _ rfl)
    | ret => exact wpIn_ret (hpost _ rfl)

theorem least {p : Nat → Prop} (h : ∃ m, p m) : ∃ m, p m ∧ ∀ j, j < m → ¬ p j := by
  obtain ⟨m, hm⟩ := h
  induction m using Nat.strongRecOn with
  | _ m ih =>
    by_cases hj : ∃ j, j < m ∧ p j
    · obtain ⟨j, h1, h2⟩ := hj
      exact ih j h1 h2
    · exact ⟨m, hm, fun j h1 h2 => hj ⟨j, h1, h2⟩⟩

theorem wpIn_loop_nat {F : Fence} {n : Nat} {c : Code} {Q : Exit → Act → World → Prop} {a : Act} {w : World} (D : Nat → Act → World → Prop) {m : Nat} (h0 : D m a w)
    (hs : ∀ m a w, D m a w → c.wpIn F n P (Exit.then (fun a' w' => ∃ j, j < m ∧ D j a' w') Q) a w) : (Code.loop c).wpIn F n P Q a w := by
  classical
  refine wpIn_loop (fun a w => ∃ m, D m a w) (fun a w => if h : ∃ m, D m a w then (least h).choose else 0) ⟨m, h0⟩ fun a w hI => ?_
  have hc := (least hI).choose_spec
  refine wpIn_mono (hs _ a w hc.1) fun e a' w' hq => ?_
  cases e with
  | normal =>
    obtain ⟨j, h1, h2⟩ := hq
    refine ⟨⟨j, h2⟩, ?_⟩
    rw [dif_pos hI, dif_pos ⟨j, h2⟩]
    have hc' := (least (p := fun m => D m a' w') ⟨j, h2⟩).choose_spec
    have : ¬ j < (least (p := fun m => D m a' w') ⟨j, h2⟩).choose := fun hlt => hc'.2 j hlt h2
    omega
  | _ => exact hq

theorem ExecPost.trans {rd : Option Nat} {G1 : Ghost} {a a1 : Act} {e : AExit} {st' : St} {x : Exit} {a' : Act} {w' : World} (hle : GLe k nl G G1) (hs : a1.tmps.size = a.tmps.size) (h : ExecPost P B0 w0 rd G1 k nl a1 e st' x a' w') :
    ExecPost P B0 w0 rd G k nl a e st' x a' w' := by
  obtain ⟨h1, G', h2, h3, h4, h5, h6, h7⟩ := h
  exact ⟨h1, G', h2, hle.trans h3, h4, h5, h6.trans hs, h7⟩

theorem exec_sound {call : CallF} (hcall : CallSound P B0 w0 call) (hro : RoOk call) (hm : P.follows .mixedOrders = true) {rd : Option Nat} {n lf : Nat} : ∀ (c : Code) (ac : ACode) (G : Ghost) (st st' : St) (a : Act) (w : World) (e : AExit), comp P c = some ac →
    At P B0 w0 G k nl st.sig w → st.sig.loops.length = nl → TmpsRel G k nl st.tmps a → tmpsOk a.tmps.size ac = true → RoundAt rd G nl → Defs rd G k a → exec call lf ac st = some (e, st') →
    c.wpIn (fenceOf rd) n P (ExecPost P B0 w0 rd G k nl a e st') a w := by
  intro c
  induction c with
  | skip =>
    intro ac G st st' a w e hc h hll hR ht hrd hdf he
    simp only [comp] at hc
    injection hc with hc
    subst hc
    simp only [exec] at he
    injection he with he
    injection he with h1 h2
    subst h1 h2
    exact wpIn_skip ⟨rfl, G, h, .refl _ _ _, hll, hR, rfl, hdf⟩
  | region id l drawn =>
    intro ac G st st' a w e hc h hll hR ht hrd hdf he
    simp only [comp] at hc
    obtain ⟨as, has, rfl⟩ := Option.map_eq_some_iff.1 hc
    simp only [exec] at he
    obtain ⟨st1, hs, he⟩ := Option.map_eq_some_iff.1 he
    injection he with h1 h2
    subst h1 h2
    simp only [tmpsOk] at ht
    refine region_sound hcall hro hm has h hR (fun o ho t hd => ?_) hs fun a' w' hp => ?_
    · have := List.all_eq_true.1 ht o ho
      rw [hd] at this
      simpa using this
    · obtain ⟨G', g1, g2, g3, g4, g5, g6⟩ := hp
      rw [hll] at g2 g3
      exact ⟨rfl, G', g1, g2.less (by omega) (Nat.le_refl _), g3, g4, g5, hdf.mono g2 g6⟩
  | seq x y ihx ihy =>
    intro ac G st st' a w e hc h hll hR ht hrd hdf he
    simp only [comp] at hc
    split at hc
    case h_2 => cases hc
    rename_i ax ay e1 e2
    injection hc with hc
    subst hc
    simp only [tmpsOk, Bool.and_eq_true] at ht
    simp only [exec] at he
    split at he
    · rename_i st1 hx
      refine wpIn_seq (wpIn_mono (ihx ax G st st1 a w .normal e1 h hll hR ht.1 hrd hdf hx) fun ex a1 w1 hp => ?_)
      obtain ⟨rfl, G1, g1, g2, g3, g4, g5, g6⟩ := hp
      exact wpIn_mono (ihy ay G1 st1 st' a1 w1 e e2 g1 g3 g4 (by rw [g5]; exact ht.2) (hrd.mono g2) g6 he) fun ex a2 w2 hq => hq.trans g2 g5
    · rename_i hne
      refine wpIn_seq (wpIn_mono (ihx ax G st st' a w e e1 h hll hR ht.1 hrd hdf he) fun ex a1 w1 hp => ?_)
      have hx := hp.1
      subst hx
      cases e with
      | normal => exact absurd he (hne _)
      | exit id => exact hp
      | ret => exact hp
  | cond cc x y ihx ihy =>
    intro ac G st st' a w e hc h hll hR ht hrd hdf he
    simp only [comp] at hc
    split at hc
    case h_2 => cases hc
    rename_i z ax ay e0 e1 e2
    injection hc with hc
    subst hc
    simp only [tmpsOk, Bool.and_eq_true] at ht
    simp only [exec] at he
    split at he
    case h_2 => cases he
    rename_i t hz
    have hv := opd_rel e0 hR
    rw [hz] at hv
    refine wpIn_cond hv.inv_v ?_
    cases t with
    | true => exact ihx ax G st st' a w e e1 h hll hR ht.1 hrd hdf (by simpa using he)
    | false => exact ihy ay G st st' a w e e2 h hll hR ht.2 hrd hdf (by simpa using he)
  | block id x ih =>
    intro ac G st st' a w e hc h hll hR ht hrd hdf he
    simp only [comp] at hc
    obtain ⟨ax, e1, rfl⟩ := Option.map_eq_some_iff.1 hc
    simp only [tmpsOk] at ht
    simp only [exec] at he
    split at he
    · rename_i j st1 hx
      refine wpIn_block (wpIn_mono (ih ax G st st1 a w (.exit j) e1 h hll hR ht hrd hdf hx) fun ex a1 w1 hp => ?_)
      obtain ⟨rfl, hp⟩ := hp
      simp only [exitOf, Exit.inBlock]
      split at he
      · rename_i hj
        injection he with he
        injection he with h1 h2
        subst h1 h2
        rw [if_pos hj]
        exact ⟨rfl, hp⟩
      · rename_i hj
        injection he with he
        injection he with h1 h2
        subst h1 h2
        rw [if_neg hj]
        exact ⟨rfl, hp⟩
    · rename_i hne
      refine wpIn_block (wpIn_mono (ih ax G st st' a w e e1 h hll hR ht hrd hdf he) fun ex a1 w1 hp => ?_)
      have hx := hp.1
      subst hx
      cases e with
      | exit j => exact absurd he (hne _ _)
      | normal => exact hp
      | ret => exact hp
  | loop x ih =>
    intro ac G st st' a w e hc h hll hR ht hrd hdf he
    simp only [comp] at hc
    obtain ⟨ax, e1, rfl⟩ := Option.map_eq_some_iff.1 hc
    simp only [tmpsOk] at ht
    simp only [exec] at he
    refine wpIn_loop_nat (fun m a1 w1 => ∃ G1 st1, At P B0 w0 G1 k nl st1.sig w1 ∧ GLe k nl G G1 ∧ st1.sig.loops.length = nl ∧ TmpsRel G1 k nl st1.tmps a1 ∧ a1.tmps.size = a.tmps.size ∧ Defs rd G1 k a1 ∧ loopN (exec call lf ax) m st1 = some (e, st'))
      (m := lf) ⟨G, st, h, .refl _ _ _, hll, hR, rfl, hdf, he⟩ fun m a1 w1 hD => ?_
    obtain ⟨G1, st1, g1, g2, g3, g4, g5, g6, hl⟩ := hD
    cases m with
    | zero => simp [loopN] at hl
    | succ m =>
      simp only [loopN] at hl
      split at hl
      · rename_i st2 hx
        refine wpIn_mono (ih ax G1 st1 st2 a1 w1 .normal e1 g1 g3 g4 (by rw [g5]; exact ht) (hrd.mono g2) g6 hx) fun ex a2 w2 hp => ?_
        obtain ⟨rfl, G2, q1, q2, q3, q4, q5, q6⟩ := hp
        exact ⟨m, by omega, G2, st2, q1, g2.trans q2, q3, q4, q5.trans g5, q6, hl⟩
      · rename_i hne
        refine wpIn_mono (ih ax G1 st1 st' a1 w1 e e1 g1 g3 g4 (by rw [g5]; exact ht) (hrd.mono g2) g6 hl) fun ex a2 w2 hp => ?_
        have hx := hp.1
        subst hx
        cases e with
        | normal => exact absurd hl (hne _)
        | exit j => exact hp.trans g2 g5
        | ret => exact hp.trans g2 g5
  | rangeFunc f ps x y ihx ihy =>
    intro ac G st st' a w e hc h hll hR ht hrd hdf he
    simp only [comp] at hc
    split at hc
    case h_2 => cases hc
    rename_i z ax ay e0 e1 e2
    injection hc with hc
    subst hc
    simp only [tmpsOk, Bool.and_eq_true] at ht
    exact rangeFunc_sound hcall h hll hR hrd hdf e0 e1 e2 (fun p hp => by simpa using List.all_eq_true.1 ht.1.1 p hp) ht.1.2 ht.2 he
  | exit id =>
    intro ac G st st' a w e hc h hll hR ht hrd hdf he
    simp only [comp] at hc
    injection hc with hc
    subst hc
    simp only [exec] at he
    injection he with he
    injection he with h1 h2
    subst h1 h2
    exact wpIn_exit ⟨rfl, G, h, .refl _ _ _, hll, hR, rfl, hdf⟩
  | ret =>
    intro ac G st st' a w e hc h hll hR ht hrd hdf he
    simp only [comp] at hc
    injection hc with hc
    subst hc
    simp only [exec] at he
    injection he with he
    injection he with h1 h2
    subst h1 h2
    exact wpIn_ret ⟨rfl, G, h, .refl _ _ _, hll, hR, rfl, hdf⟩
  | _ =>
    intro ac G st st' a w e hc
    simp [comp] at hc

end
end Go.Ax
