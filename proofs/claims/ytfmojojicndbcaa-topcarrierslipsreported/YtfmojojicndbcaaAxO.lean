/-
  Every operation but a call: what the executor gives is what the model does.
-/
import Derived.Test.YtfmojojicndbcaaAxN
namespace Go.Ax
open Go.RowKit

/-- Is it a call of a function? -/
def isCallA : AOp → Bool
  | .call .. | .callv .. => true
  | _ => false

section
variable {P : Program} {B0 : Nat} {w0 : World} {G : Ghost} {k nl : Nat} {w : World} {s : Sig}

/-- What the model's operation does, as the executor has it. -/
def OpTo (P : Program) (B0 : Nat) (w0 : World) (G : Ghost) (k nl : Nat) (s s' : Sig) (w : World) (v : AV) (m : Sem Next) : Prop :=
  ∃ w', (∃ z, m.run P w = .ok (.value z) w' ∧ StepTo P B0 w0 G k nl s s' w' v z) ∨ (m.run P w = .ok .skip w' ∧ StepTo P B0 w0 G k nl s s' w' v Go.undef)

theorem OpTo.val {s' : Sig} {v : AV} {q : Sem Value} (h : ∃ z w', q.run P w = .ok z w' ∧ StepTo P B0 w0 G k nl s s' w' v z) : OpTo P B0 w0 G k nl s s' w v (do pure (.value (← q))) := by
  obtain ⟨z, w', h1, h2⟩ := h
  exact ⟨w', .inl ⟨z, by simp [h1], h2⟩⟩

theorem OpTo.pureVal (h : At P B0 w0 G k nl s w) {v : AV} {q : Sem Value} (hq : ∃ z, q.run P w = .ok z w ∧ Rel G k nl v z) : OpTo P B0 w0 G k nl s s w v (do pure (.value (← q))) := by
  obtain ⟨z, h1, h2⟩ := hq
  exact .val ⟨z, w, h1, .same h h2⟩

theorem map_pair {α β : Type} {o : Option α} {x : β} {p : α × β} (h : o.map (·, x) = some p) : o = some p.1 ∧ p.2 = x := by
  cases o with
  | none => cases h
  | some y => injection h with h; subst h; exact ⟨rfl, rfl⟩

theorem compBin_cases {op : BinOp} {t : TypeId} {x y : Operand} {o : AOp} (h : compBin P op t x y = some o) :
    ∃ a b, compOpd x = some a ∧ compOpd y = some b ∧ (o = .arith op a b ∨ ∃ neg neg' kd c d, eqNeg op = some neg ∧ compEq P op neg t x y a b = some (.eqv neg' kd c d) ∧ o = .eqv neg' kd c d) := by
  unfold compBin at h
  split at h
  · rename_i a b ha hb
    refine ⟨a, b, ha, hb, ?_⟩
    split at h
    · rename_i neg hn
      have h0 := h
      unfold compEq at h
      split at h <;> first
        | (cases h; done)
        | (injection h with h; subst h; first | exact .inl rfl | exact .inr ⟨_, _, _, _, _, hn, h0, rfl⟩)
        | skip
      · split at h
        · obtain ⟨ks, _, rfl⟩ := Option.map_eq_some_iff.1 h
          exact .inr ⟨_, _, _, _, _, hn, h0, rfl⟩
        · cases h
      · split at h
        · injection h with h; subst h; exact .inr ⟨_, _, _, _, _, hn, h0, rfl⟩
        · cases h
    · injection h with h
      exact .inl h.symm
  · cases h

theorem opt_rel {x : Option Operand} {ax : Option AOpd} {ρ : Nat → AV} {a : Act} (hc : compOpt x = some ax) (hR : TmpsRel G k nl ρ a) : OptRel G k nl (evalOpt (evalT ρ) ax) (x.map a.eval) := by
  cases x with
  | none =>
    simp only [compOpt] at hc
    injection hc with hc
    subst hc
    trivial
  | some x =>
    simp only [compOpt] at hc
    obtain ⟨y, hy, rfl⟩ := Option.map_eq_some_iff.1 hc
    exact opd_rel hy hR

theorem args_rel {xs : List Operand} {as : List AOpd} {ρ : Nat → AV} {a : Act} (hc : mapO compOpd xs = some as) (hR : TmpsRel G k nl ρ a) :
    (xs.toArray.map a.eval).size = (as.map (evalT ρ)).length ∧ ∀ i (hi : i < (as.map (evalT ρ)).length), Rel G k nl (as.map (evalT ρ))[i] ((xs.toArray.map a.eval).getD i Go.undef) := by
  obtain ⟨l1, h1⟩ := mapO_spec hc
  refine ⟨by simp [l1], fun i hi => ?_⟩
  have hi' : i < as.length := by simpa using hi
  have hx : i < xs.length := by omega
  have := opd_rel (h1 i hx hi') hR
  simpa [Array.getD, hx] using this


theorem callOp_sound (h : At P B0 w0 G k nl s w) {ρ : Nat → AV} {a : Act} (hR : TmpsRel G k nl ρ a) {ro : Bool} {call : CallF} {aop : AOp} {v : AV} {s' : Sig} {c : Call} {ty : TypeId} (hc : compCall P ro c = some aop) (hn : isCallA aop = false) (hv : opv call (evalT ρ) s aop = some (v, s')) :
    OpTo P B0 w0 G k nl s s' w v (do let d ← resolve a.eval c ty; invoke d.target d.args) := by
  unfold compCall at hc
  split at hc
  · cases hc
  rename_i as has
  have hargs := args_rel has hR
  split at hc
  · injection hc with hc; subst hc; simp [isCallA] at hn
  · obtain ⟨y, _, rfl⟩ := Option.map_eq_some_iff.1 hc
    simp [isCallA] at hn
  · cases hc
  · rename_i b hb
    have hres : ∀ (m : Sem Next), (do let d ← resolve a.eval c ty; invoke d.target d.args : Sem Next).run P w = m.run P w → OpTo P B0 w0 G k nl s s' w v m → OpTo P B0 w0 G k nl s s' w v (do let d ← resolve a.eval c ty; invoke d.target d.args) := fun m e ho => by
      unfold OpTo at ho ⊢
      rw [e]
      exact ho
    obtain ⟨cons, hrun⟩ : ∃ cons : Array Bool, (do let d ← resolve a.eval c ty; invoke d.target d.args : Sem Next).run P w = (builtin b c.argTypes ty cons (c.args.map a.eval)).run P w := by
      have hr : resolve a.eval c ty = pure { target := .builtin b c.argTypes ty (c.args.map fun | .const _ => true | _ => false), args := c.args.map a.eval } := by
        simp only [resolve, hb]
        rfl
      exact ⟨c.args.map fun | .const _ => true | _ => false, by rw [hr]; rfl⟩
    refine hres _ hrun ?_
    clear hres hrun
    split at hc
    · -- append
      rename_i x y t u e1
      have hat : c.argTypes = #[t, u] := by
        have := congrArg List.toArray e1
        simpa using this
      split at hc
      · rename_i e e' ht hu
        split at hc
        · rename_i sz n z hs hn' hz
          split at hc
          · rename_i hcond
            injection hc with hc
            subst hc
            obtain ⟨c1, c2, c3, c4⟩ := hcond
            obtain ⟨zv, z1, z2⟩ := zeroP_run hz
            have hzl := (cells_rel (I := G.I) z2).1
            obtain ⟨l1, h1⟩ := mapO_spec has
            have hlen2 : c.args.toList.length = 2 := by simpa using l1.symm
            obtain ⟨xx, yy, hxy⟩ : ∃ xx yy, c.args.toList = [xx, yy] := by
              match hh : c.args.toList, hlen2 with
              | [xx, yy], _ => exact ⟨xx, yy, rfl⟩
            have hca : c.args = #[xx, yy] := by
              have := congrArg List.toArray hxy
              simpa using this
            have hx := opd_rel (by simpa [hxy] using h1 0 (by omega) (by simp)) hR
            have hy := opd_rel (by simpa [hxy] using h1 1 (by omega) (by simp)) hR
            have hT : ElemT P t e sz n zv := ⟨ht, hs, hn', z1, by rw [hzl]; exact c4, c1, c2, c3⟩
            obtain ⟨x', w', r1, r2⟩ := append_sound h (ty := ty) hT ⟨e', hu⟩ hx hy hv
            refine .val ⟨x', w', ?_, r2⟩
            rw [hat, hca]
            simpa using r1
          · cases hc
        · cases hc
      · cases hc
    · -- len
      rename_i x t e1
      have hat : c.argTypes = #[t] := by
        have := congrArg List.toArray e1
        simpa using this
      obtain ⟨l1, h1⟩ := mapO_spec has
      have hlen1 : c.args.toList.length = 1 := by simpa using l1.symm
      obtain ⟨xx, hxx⟩ : ∃ xx, c.args.toList = [xx] := by
        match hh : c.args.toList, hlen1 with
        | [xx], _ => exact ⟨xx, rfl⟩
      have hca : c.args = #[xx] := by
        have := congrArg List.toArray hxx
        simpa using this
      have hx := opd_rel (by simpa [hxx] using h1 0 (by omega) (by simp)) hR
      split at hc
      · rename_i e ht
        injection hc with hc
        subst hc
        obtain ⟨q1, q2⟩ := map_pair hv
        simp only at q2
        subst q2
        have := len_sound (P := P) (w := w) (ty := ty) (.inl ⟨rfl, e, ht⟩) hx q1
        rw [hat, hca]
        exact .pureVal h (by simpa using this)
      · rename_i ht
        injection hc with hc
        subst hc
        obtain ⟨q1, q2⟩ := map_pair hv
        simp only at q2
        subst q2
        have := len_sound (P := P) (w := w) (ty := ty) (.inr ⟨rfl, ht⟩) hx q1
        rw [hat, hca]
        exact .pureVal h (by simpa using this)
      · rename_i n e ht
        injection hc with hc
        subst hc
        simp only [opv, Option.some.injEq, Prod.mk.injEq] at hv
        obtain ⟨rfl, rfl⟩ := hv
        rw [hat, hca]
        refine .pureVal h ⟨.int .i64 n, ?_, .val _ rfl⟩
        simp [Builtin.len_, run_underlying ht, goInt]
      · cases hc
    · -- max
      injection hc with hc
      subst hc
      obtain ⟨q1, q2⟩ := map_pair hv
      simp only at q2
      subst q2
      obtain ⟨z, r1, r2⟩ := minmax_sound (P := P) (w := w) (mx := true) c.argTypes ty hargs.1 hargs.2 q1
      exact .pureVal h ⟨z, by simpa using r1, r2⟩
    · injection hc with hc
      subst hc
      obtain ⟨q1, q2⟩ := map_pair hv
      simp only at q2
      subst q2
      obtain ⟨z, r1, r2⟩ := minmax_sound (P := P) (w := w) (mx := false) c.argTypes ty hargs.1 hargs.2 q1
      exact .pureVal h ⟨z, by simpa using r1, r2⟩
    · cases hc

theorem opv_sound (h : At P B0 w0 G k nl s w) {ρ : Nat → AV} {a : Act} (hR : TmpsRel G k nl ρ a) {ro : Bool} {call : CallF} {aop : AOp} {v : AV} {s' : Sig} {o : Oper} (hc : compOp P ro o.op = some aop) (hn : isCallA aop = false) (hv : opv call (evalT ρ) s aop = some (v, s')) :
    OpTo P B0 w0 G k nl s s' w v (execOp a.eval o) := by
  obtain ⟨dst, op, ty, pos, after, guard⟩ := o
  simp only at hc
  -- an operation that leaves the memory as it is
  have pureOp : ∀ {r : Option AV} {q : Sem Value}, r.map (·, s) = some (v, s') → (r = some v → ∃ z, q.run P w = .ok z w ∧ Rel G k nl v z) → OpTo P B0 w0 G k nl s s' w v (do pure (.value (← q))) := fun e f => by
    obtain ⟨q1, q2⟩ := map_pair e
    simp only at q1 q2
    subst q2
    exact .pureVal h (f q1)
  cases op with
  | move x =>
    obtain ⟨y, hy, rfl⟩ := Option.map_eq_some_iff.1 hc
    simp only [opv, Option.some.injEq, Prod.mk.injEq] at hv
    obtain ⟨rfl, rfl⟩ := hv
    exact ⟨w, .inl ⟨a.eval x, rfl, .same h (opd_rel hy hR)⟩⟩
  | assign x =>
    obtain ⟨y, hy, rfl⟩ := Option.map_eq_some_iff.1 hc
    simp only [opv, Option.some.injEq, Prod.mk.injEq] at hv
    obtain ⟨rfl, rfl⟩ := hv
    exact ⟨w, .inl ⟨a.eval x, rfl, .same h (opd_rel hy hR)⟩⟩
  | pick x y z =>
    simp only [compOp] at hc
    split at hc
    · rename_i ax ay az e1 e2 e3
      injection hc with hc
      subst hc
      obtain ⟨q1, q2⟩ := map_pair hv
      simp only at q1 q2
      subst q2
      obtain ⟨u, r1, r2⟩ := pick_sound (opd_rel e1 hR) (opd_rel e2 hR) (opd_rel e3 hR) q1
      refine ⟨w, .inl ⟨_, ?_, .same h r2⟩⟩
      simp [execOp, r1, asBool]
    · cases hc
  | alloc e =>
    obtain ⟨zs, hz, rfl⟩ := Option.map_eq_some_iff.1 hc
    simp only [opv, Option.some.injEq] at hv
    obtain ⟨z, z1, z2⟩ := zeroP_run hz
    obtain ⟨c1, c2, c3⟩ := cells_rel (I := G.I) z2
    have := (newBox_sound h (arr := z.cells) e c2 ⟨c1, fun i hi => .cl (c3 i hi)⟩).1
    rw [hv] at this
    refine .val ⟨_, _, ?_, this⟩
    simp only [Instr.alloc, Sem.run_bind, zeroValue_run z1, Result.andThen_ok]
    simp [newVar, newRow]
  | box e x =>
    simp only [compOp] at hc
    split at hc
    · rename_i n y e1 e2
      injection hc with hc
      subst hc
      simp only [opv, boxOp] at hv
      split at hv
      · rename_i hcond
        injection hv with hv
        have hx := opd_rel e2 hR
        have hrow := hx.cells hcond.2
        have := (newBox_sound h (arr := (a.eval x).cells) e (List.all_eq_true.1 hcond.2) hrow).1
        rw [hv] at this
        refine .val ⟨_, _, ?_, this⟩
        simp [Instr.box, newVar, newRow]
      · cases hv
    · cases hc
  | build t parts =>
    simp only [compOp] at hc
    split at hc
    · rename_i z fs e1 e2
      split at hc
      · rename_i hall
        obtain ⟨ps, hps, rfl⟩ := Option.map_eq_some_iff.1 hc
        simp only [opv] at hv
        obtain ⟨cs, hcs, hv⟩ := Option.map_eq_some_iff.1 hv
        injection hv with h1 h2
        subst h1 h2
        exact .pureVal h (buildStruct_sound hR e1 e2 hall hps hcs)
      · cases hc
    · rename_i z n e e1 e2
      split at hc
      · rename_i sz e3
        obtain ⟨ps, hps, rfl⟩ := Option.map_eq_some_iff.1 hc
        simp only [opv] at hv
        obtain ⟨cs, hcs, hv⟩ := Option.map_eq_some_iff.1 hv
        injection hv with h1 h2
        subst h1 h2
        exact .pureVal h (buildArr_sound hR e1 e2 e3 hps hcs)
      · cases hc
    · cases hc
  | buildSlice t len parts =>
    simp only [compOp] at hc
    split at hc
    · rename_i e ht
      split at hc
      · rename_i sz z ps e1 e2 e3
        split at hc
        · rename_i hcond
          injection hc with hc
          subst hc
          simp only [opv] at hv
          obtain ⟨rs, hrs, hv⟩ := Option.map_eq_some_iff.1 hv
          injection hv with h1 h2
          subst h1 h2
          exact .val (buildSlice_sound h hR ht e1 e2 e3 hcond.1 hcond.2.1 hcond.2.2 hrs)
        · cases hc
      · cases hc
    · cases hc
  | load t x =>
    simp only [compOp] at hc
    split at hc
    · rename_i g n y e1 e2 e3
      injection hc with hc
      subst hc
      exact pureOp hv fun e => load_sound h (opd_rel e3 hR) e e1 e2
    · cases hc
  | store t x y =>
    simp only [compOp] at hc
    split at hc
    · rename_i n ax ay e1 e2 e3
      injection hc with hc
      subst hc
      simp only [opv] at hv
      obtain ⟨m, hm, hv⟩ := Option.map_eq_some_iff.1 hv
      injection hv with h1 h2
      subst h1 h2
      obtain ⟨w', r1, r2⟩ := store_sound h (opd_rel e2 hR) (opd_rel e3 hR) e1 hm
      exact ⟨w', .inr ⟨by simp [execOp, r1], r2⟩⟩
    · cases hc
  | nilCheck x =>
    obtain ⟨y, hy, rfl⟩ := Option.map_eq_some_iff.1 hc
    obtain ⟨q1, q2⟩ := map_pair hv
    simp only at q1 q2
    subst q2
    obtain ⟨r1, n1, n2, n3, n4⟩ := nilCheck_sound (opd_rel hy hR) q1
    refine ⟨w, .inl ⟨a.eval x, ?_, .same h r1⟩⟩
    unfold execOp
    simp only
    rfl
  | binOp op t x y yt =>
    obtain ⟨ax, ay, e1, e2, hq⟩ := compBin_cases hc
    rcases hq with rfl | ⟨neg, neg', kd, c, d, hneg, hm, rfl⟩
    · refine pureOp hv fun e => ?_
      obtain ⟨z, r1, r2, r3, r4⟩ := arith_sound (P := P) (w := w) t (opd_rel e1 hR) (opd_rel e2 hR) e
      exact ⟨z, by simp [eqGuard_other r3 r4, r1], r2⟩
    · simp only [opv] at hv
      obtain ⟨t', ht', hv⟩ := Option.map_eq_some_iff.1 hv
      injection hv with h1 h2
      subst h1 h2
      exact .pureVal h ⟨_, eqv_sound hneg (opd_rel e1 hR) (opd_rel e2 hR) hm ht', .val _ rfl⟩
  | unOp op t x =>
    obtain ⟨y, hy, rfl⟩ := Option.map_eq_some_iff.1 hc
    exact pureOp hv fun e => unOp_sound (opd_rel hy hR) e
  | convert src dst x =>
    simp only [compOp] at hc
    obtain ⟨y, hy, hc⟩ := Option.bind_eq_some_iff.1 hc
    have hk : ∃ kd, aop = .conv kd y := by
      unfold compConv at hc
      split at hc
      · injection hc with hc; exact ⟨_, hc.symm⟩
      · injection hc with hc; exact ⟨_, hc.symm⟩
      · split at hc
        · injection hc with hc; exact ⟨_, hc.symm⟩
        · cases hc
      · split at hc
        · injection hc with hc; exact ⟨_, hc.symm⟩
        · cases hc
      · cases hc
    obtain ⟨kd, rfl⟩ := hk
    obtain ⟨q1, q2⟩ := map_pair hv
    simp only at q1 q2
    subst q2
    exact .val (conv_sound (x := x) (op := .lenArr 0) h hc (opd_rel hy hR) q1)
  | makeInterface t x =>
    simp only [compOp] at hc
    split at hc
    · cases hc
    · rename_i d hni hd
      obtain ⟨y, hy, rfl⟩ := Option.map_eq_some_iff.1 hc
      refine pureOp hv fun e => ⟨.iface t (a.eval x), ?_, iface_sound (opd_rel hy hR) e⟩
      simp only [Instr.makeInterface, Sem.run_bind, run_underlying hd, Result.andThen_ok]
      cases d <;> first | (exact absurd hd (hni _)) | rfl
    · cases hc
  | makeFunc fn first caps =>
    cases fn with
    | func f =>
      simp only [compOp] at hc
      split at hc
      · rename_i af ac e1 e2
        injection hc with hc
        subst hc
        simp only [opv] at hv
        split at hv
        · rename_i hcl
          injection hv with hv
          injection hv with h1 h2
          subst h1 h2
          have := mkFn_sound (f := f) hR e1 e2 hcl
          exact .pureVal h ⟨_, by simp [Instr.makeFunc]; rfl, by simpa using this⟩
        · cases hv
      · cases hc
    | _ => simp [compOp] at hc
  | makeSlice t l c =>
    simp only [compOp] at hc
    split at hc
    · rename_i e ht
      split at hc
      · rename_i sz n z al ac e1 e2 e3 e4 e5
        split at hc
        · rename_i hcond
          injection hc with hc
          subst hc
          exact .val (mkSlice_sound h ht e1 e2 e3 hcond.2.2 hcond.1 hcond.2.1 (opd_rel e4 hR) (opd_rel e5 hR) hv)
        · cases hc
      · cases hc
    · cases hc
  | slice t x lo hi mx =>
    simp only [compOp] at hc
    split at hc
    · rename_i ax al ah am e1 e2 e3 e4
      split at hc
      · rename_i ht
        injection hc with hc
        subst hc
        exact pureOp hv fun e => sliceOp_sound (kd := .str) ht (opd_rel e1 hR) (opt_rel e2 hR) (opt_rel e3 hR) (opt_rel e4 hR) e
      · rename_i e0 ht
        obtain ⟨sz, hsz, rfl⟩ := Option.map_eq_some_iff.1 hc
        exact pureOp hv fun e => sliceOp_sound (kd := .sl sz) ⟨e0, ht, hsz⟩ (opd_rel e1 hR) (opt_rel e2 hR) (opt_rel e3 hR) (opt_rel e4 hR) e
      · rename_i n e0 ht
        obtain ⟨sz, hsz, rfl⟩ := Option.map_eq_some_iff.1 hc
        exact pureOp hv fun e => sliceOp_sound (kd := .arr n sz) ⟨e0, ht, hsz⟩ (opd_rel e1 hR) (opt_rel e2 hR) (opt_rel e3 hR) (opt_rel e4 hR) e
      · cases hc
    · cases hc
  | fieldAddr t x i =>
    simp only [compOp] at hc
    split at hc
    · rename_i fs ax ht e1
      split at hc
      · rename_i f hf
        split at hc
        · rename_i n hn'
          split at hc
          · rename_i h0
            injection hc with hc
            subst hc
            exact pureOp hv fun e => fieldAddr_sound ht hf hn' h0 (opd_rel e1 hR) e
          · cases hc
        · cases hc
      · cases hc
    · cases hc
  | field t x i =>
    simp only [compOp] at hc
    split at hc
    · rename_i fs ax ht e1
      split at hc
      · rename_i f hf
        split at hc
        · rename_i g n hg hn'
          injection hc with hc
          subst hc
          exact pureOp hv fun e => field_sound ht hf hg hn' (opd_rel e1 hR) e
        · cases hc
      · cases hc
    · cases hc
  | indexAddr t x i =>
    simp only [compOp] at hc
    split at hc
    · rename_i ax ai e1 e2
      split at hc
      · rename_i n e0 ht
        obtain ⟨sz, hsz, rfl⟩ := Option.map_eq_some_iff.1 hc
        exact pureOp hv fun e => indexArr_sound ht hsz (opd_rel e1 hR) (opd_rel e2 hR) e
      · rename_i e0 ht
        obtain ⟨sz, hsz, rfl⟩ := Option.map_eq_some_iff.1 hc
        exact pureOp hv fun e => indexSl_sound ht hsz (opd_rel e1 hR) (opd_rel e2 hR) e
      · cases hc
    · cases hc
  | index t x i =>
    simp only [compOp] at hc
    split at hc
    · rename_i ax ai e1 e2
      split at hc
      · rename_i n e0 ht
        split at hc
        · rename_i g sz hg hsz
          injection hc with hc
          subst hc
          exact pureOp hv fun e => index_sound ht hg hsz (opd_rel e1 hR) (opd_rel e2 hR) e
        · cases hc
      · rename_i ht
        injection hc with hc
        subst hc
        exact pureOp hv fun e => indexStr_sound ht (opd_rel e1 hR) (opd_rel e2 hR) e
      · cases hc
    · cases hc
  | extract x i =>
    obtain ⟨y, hy, rfl⟩ := Option.map_eq_some_iff.1 hc
    exact pureOp hv fun e => extract_sound (opd_rel hy hR) e
  | call c => exact callOp_sound h hR (ty := ty) hc hn hv
  | _ => simp [compOp] at hc

end
end Go.Ax
