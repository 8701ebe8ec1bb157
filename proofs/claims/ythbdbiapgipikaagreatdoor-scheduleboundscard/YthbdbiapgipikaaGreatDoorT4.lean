/-
  Every operation but a call: what the executor gives is what the model does.
-/
import Derived.Test.YthbdbiapgipikaaGreatDoorT3
import Derived.Test.YthbdbiapgipikaaGreatDoorT2
import Derived.RangeFuncOwn
import Derived.TacticsIn
import Derived.OrdersIn
namespace Go.Ax
open Go.RowKit
def isCallA : AOp → Bool
 | .call .. | .callv .. | .callo .. | .fcall .. => true
 | _ => false
section
variable {P : Program} {B0 : Nat} {w0 : World} {G : Ghost} {k nl : Nat} {w : World} {s : Sig}
def OpTo (P : Program) (B0 : Nat) (w0 : World) (G : Ghost) (k nl : Nat) (s s' : Sig) (w : World) (v : AV) (m : Sem Next) : Prop :=
 ∃ w', (∃ z, m.run P w = .ok (.value z) w' ∧ StepTo P B0 w0 G k nl s s' w' v z) ∨ (m.run P w = .ok .skip w' ∧ StepTo P B0 w0 G k nl s s' w' v Go.undef)
theorem OpTo.val {s' : Sig} {v : AV} {q : Sem Value} (h : ∃ z w', q.run P w = .ok z w' ∧ StepTo P B0 w0 G k nl s s' w' v z) : OpTo P B0 w0 G k nl s s' w v (do pure (.value (← q))) := by
 obtain ⟨z, w', h1, h2⟩ := h
 exact ⟨w', .inl ⟨z, by simp [h1], h2⟩⟩
theorem OpTo.pureVal (h : At P B0 w0 G k nl s w) {v : AV} {q : Sem Value} (hq : ∃ z, q.run P w = .ok z w ∧ Rel G k nl v z) : OpTo P B0 w0 G k nl s s w v (do pure (.value (← q))) := by
 obtain ⟨z, h1, h2⟩ := hq
 exact .val ⟨z, w, h1, .same h h2⟩
theorem map_pair {α β : Type} {o : Option α} {x : β} {p : α × β} (h : o.map (·, x) = some p) : o = some p.1 ∧ p.2 = x := by
 cases o with
 | none => cases h
 | some y => injection h with h; subst h; exact ⟨rfl, rfl⟩
theorem compBin_cases {op : BinOp} {t : TypeId} {x y : Operand} {o : AOp} (h : compBin P op t x y = some o) :
  ∃ a b, compOpd x = some a ∧ compOpd y = some b ∧ (o = .arith op a b ∨ ∃ neg neg' kd c d, eqNeg op = some neg ∧ compEq P op neg t x y a b = some (.eqv neg' kd c d) ∧ o = .eqv neg' kd c d) := by
 unfold compBin at h
 split at h
 ·rename_i a b ha hb
  refine ⟨a, b, ha, hb, ?_⟩
  split at h
  ·rename_i neg hn
   have h0 := h
   unfold compEq at h
   split at h <;> first
    | (cases h; done)
    | (injection h with h; subst h; first | exact .inl rfl | exact .inr ⟨_, _, _, _, _, hn, h0, rfl⟩)
    | skip
   ·split at h
    ·obtain ⟨ks, _, rfl⟩ := Option.map_eq_some_iff.1 h
     exact .inr ⟨_, _, _, _, _, hn, h0, rfl⟩
    ·cases h
   ·split at h
    ·injection h with h; subst h; exact .inr ⟨_, _, _, _, _, hn, h0, rfl⟩
    ·cases h
  ·injection h with h
   exact .inl h.symm
 ·cases h
theorem opt_rel {x : Option Operand} {ax : Option AOpd} {ρ : Nat → AV} {a : Act} (hc : compOpt x = some ax) (hR : TmpsRel G k nl ρ a) : OptRel G k nl (evalOpt (evalT ρ) ax) (x.map a.eval) := by
 cases x with
 | none =>
  simp only [compOpt] at hc
  injection hc with hc
  subst hc
  trivial
 | some x =>
  simp only [compOpt] at hc
  obtain ⟨y, hy, rfl⟩ := Option.map_eq_some_iff.1 hc
  exact opd_rel hy hR
theorem args_rel {xs : List Operand} {as : List AOpd} {ρ : Nat → AV} {a : Act} (hc : mapO compOpd xs = some as) (hR : TmpsRel G k nl ρ a) :
  (xs.toArray.map a.eval).size = (as.map (evalT ρ)).length ∧ ∀ i (hi : i < (as.map (evalT ρ)).length), Rel G k nl (as.map (evalT ρ))[i] ((xs.toArray.map a.eval).getD i Go.undef) := by
 obtain ⟨l1, h1⟩ := mapO_spec hc
 refine ⟨by simp [l1], fun i hi => ?_⟩
 have hi' : i < as.length := by simpa using hi
 have hx : i < xs.length := by omega
 have := opd_rel (h1 i hx hi') hR
 simpa [Array.getD, hx] using this
theorem callOp_sound (h : At P B0 w0 G k nl s w) {ρ : Nat → AV} {a : Act} (hR : TmpsRel G k nl ρ a) {ro own mu : Bool} {fr : Option (List AV)} {call : CallF} {aop : AOp} {v : AV} {s' : Sig} {c : Call} {ty : TypeId} (hc : compCall P ro own mu fr c = some aop) (hn : isCallA aop = false) (hv : opv call (evalT ρ) s aop = some (v, s')) :
  OpTo P B0 w0 G k nl s s' w v (do let d ← resolve a.eval c ty; invoke d.target d.args) := by
 unfold compCall at hc
 split at hc
 ·cases hc
 rename_i as has
 have hargs := args_rel has hR
 split at hc
 ·injection hc with hc; subst hc; split at hn <;> first | (simp [isCallA] at hn; done) | (split at hn <;> simp [isCallA] at hn)
 ·obtain ⟨y, _, rfl⟩ := Option.map_eq_some_iff.1 hc
  simp [isCallA] at hn
 ·cases hc
 ·rename_i b hb
  have hres : ∀ (m : Sem Next), (do let d ← resolve a.eval c ty; invoke d.target d.args : Sem Next).run P w = m.run P w → OpTo P B0 w0 G k nl s s' w v m → OpTo P B0 w0 G k nl s s' w v (do let d ← resolve a.eval c ty; invoke d.target d.args) := fun m e ho => by
   unfold OpTo at ho ⊢
   rw [e]
   exact ho
  obtain ⟨cons, hrun⟩ : ∃ cons : Array Bool, (do let d ← resolve a.eval c ty; invoke d.target d.args : Sem Next).run P w = (builtin b c.argTypes ty cons (c.args.map a.eval)).run P w := by
   have hr : resolve a.eval c ty = pure { target := .builtin b c.argTypes ty (c.args.map fun | .const _ => true | _ => false), args := c.args.map a.eval } := by
    simp only [resolve, hb]
    rfl
   exact ⟨c.args.map fun | .const _ => true | _ => false, by rw [hr]; rfl⟩
  refine hres _ hrun ?_
  clear hres hrun
  split at hc
  · -- append
   rename_i x y t u e1
   have hat : c.argTypes = #[t, u] := by
    have := congrArg List.toArray e1
    simpa using this
   split at hc
   ·rename_i e e' ht hu
    split at hc
    ·rename_i sz n z hs hn' hz
     split at hc
     ·rename_i hcond
      injection hc with hc
      subst hc
      obtain ⟨c1, c2, c3, c4⟩ := hcond
      obtain ⟨zv, z1, z2⟩ := zeroP_run hz
      have hzl := (cells_rel (I := G.I) z2).1
      obtain ⟨l1, h1⟩ := mapO_spec has
      have hlen2 : c.args.toList.length = 2 := by simpa using l1.symm
      obtain ⟨xx, yy, hxy⟩ : ∃ xx yy, c.args.toList = [xx, yy] := by
       match hh : c.args.toList, hlen2 with
       | [xx, yy], _ => exact ⟨xx, yy, rfl⟩
      have hca : c.args = #[xx, yy] := by
       have := congrArg List.toArray hxy
       simpa using this
      have hx := opd_rel (by simpa [hxy] using h1 0 (by omega) (by simp)) hR
      have hy := opd_rel (by simpa [hxy] using h1 1 (by omega) (by simp)) hR
      have hT : ElemT P t e sz n zv := ⟨ht, hs, hn', z1, by rw [hzl]; exact c4, c1, c2, c3⟩
      obtain ⟨x', w', r1, r2⟩ : ∃ x' w', (Builtin.append_ #[t, u] ty #[a.eval xx, a.eval yy]).run P w = .ok x' w' ∧ StepTo P B0 w0 G k nl s s' w' v x' := by
       cases mu with
       | false => exact append_sound h (ty := ty) hT ⟨e', hu⟩ hx hy hv
       | true => exact appendm_sound h (ty := ty) hT ⟨e', hu⟩ hx hy hv
      refine .val ⟨x', w', ?_, r2⟩
      rw [hat, hca]
      simpa using r1
     ·cases hc
    ·cases hc
   ·cases hc
  · -- len
   rename_i x t e1
   have hat : c.argTypes = #[t] := by
    have := congrArg List.toArray e1
    simpa using this
   obtain ⟨l1, h1⟩ := mapO_spec has
   have hlen1 : c.args.toList.length = 1 := by simpa using l1.symm
   obtain ⟨xx, hxx⟩ : ∃ xx, c.args.toList = [xx] := by
    match hh : c.args.toList, hlen1 with
    | [xx], _ => exact ⟨xx, rfl⟩
   have hca : c.args = #[xx] := by
    have := congrArg List.toArray hxx
    simpa using this
   have hx := opd_rel (by simpa [hxx] using h1 0 (by omega) (by simp)) hR
   split at hc
   ·rename_i e ht
    injection hc with hc
    subst hc
    obtain ⟨q1, q2⟩ := map_pair hv
    simp only at q2
    subst q2
    have := len_sound (P := P) (w := w) (ty := ty) (.inl ⟨rfl, e, ht⟩) hx q1
    rw [hat, hca]
    exact .pureVal h (by simpa using this)
   ·rename_i ht
    injection hc with hc
    subst hc
    obtain ⟨q1, q2⟩ := map_pair hv
    simp only at q2
    subst q2
    have := len_sound (P := P) (w := w) (ty := ty) (.inr ⟨rfl, ht⟩) hx q1
    rw [hat, hca]
    exact .pureVal h (by simpa using this)
   ·rename_i n e ht
    injection hc with hc
    subst hc
    simp only [opv, Option.some.injEq, Prod.mk.injEq] at hv
    obtain ⟨rfl, rfl⟩ := hv
    rw [hat, hca]
    refine .pureVal h ⟨.int .i64 n, ?_, .val _ rfl⟩
    simp [Builtin.len_, run_underlying ht, goInt]
   ·cases hc
  · -- copy
   rename_i x y t u e1
   have hat : c.argTypes = #[t, u] := by
    have := congrArg List.toArray e1
    simpa using this
   split at hc
   ·rename_i e ht
    split at hc
    ·rename_i hs
     injection hc with hc
     subst hc
     obtain ⟨l1, h1⟩ := mapO_spec has
     have hlen2 : c.args.toList.length = 2 := by simpa using l1.symm
     obtain ⟨xx, yy, hxy⟩ : ∃ xx yy, c.args.toList = [xx, yy] := by
      match hh : c.args.toList, hlen2 with
      | [xx, yy], _ => exact ⟨xx, yy, rfl⟩
     have hca : c.args = #[xx, yy] := by
      have := congrArg List.toArray hxy
      simpa using this
     have hx := opd_rel (by simpa [hxy] using h1 0 (by omega) (by simp)) hR
     have hy := opd_rel (by simpa [hxy] using h1 1 (by omega) (by simp)) hR
     obtain ⟨x', w', r1, r2⟩ := copy_sound h (ty := ty) (u := u) ht hs hx hy hv
     refine .val ⟨x', w', ?_, r2⟩
     rw [hat, hca]
     simpa using r1
    ·cases hc
   ·cases hc
  · -- max
   injection hc with hc
   subst hc
   obtain ⟨q1, q2⟩ := map_pair hv
   simp only at q2
   subst q2
   obtain ⟨z, r1, r2⟩ := minmax_sound (P := P) (w := w) (mx := true) c.argTypes ty hargs.1 hargs.2 q1
   exact .pureVal h ⟨z, by simpa using r1, r2⟩
  ·injection hc with hc
   subst hc
   obtain ⟨q1, q2⟩ := map_pair hv
   simp only at q2
   subst q2
   obtain ⟨z, r1, r2⟩ := minmax_sound (P := P) (w := w) (mx := false) c.argTypes ty hargs.1 hargs.2 q1
   exact .pureVal h ⟨z, by simpa using r1, r2⟩
  ·cases hc
theorem opv_sound (h : At P B0 w0 G k nl s w) {ρ : Nat → AV} {a : Act} (hR : TmpsRel G k nl ρ a) {md : Md} {call : CallF} {aop : AOp} {v : AV} {s' : Sig} {o : Oper} (hc : compOp P md o.op = some aop) (hn : isCallA aop = false) (hv : opv call (evalT ρ) s aop = some (v, s')) :
  OpTo P B0 w0 G k nl s s' w v (execOp a.eval o) := by
 obtain ⟨dst, op, ty, pos, after, guard⟩ := o
 simp only at hc
 have pureOp : ∀ {r : Option AV} {q : Sem Value}, r.map (·, s) = some (v, s') → (r = some v → ∃ z, q.run P w = .ok z w ∧ Rel G k nl v z) → OpTo P B0 w0 G k nl s s' w v (do pure (.value (← q))) := fun e f => by
  obtain ⟨q1, q2⟩ := map_pair e
  simp only at q1 q2
  subst q2
  exact .pureVal h (f q1)
 cases op with
 | move x =>
  obtain ⟨y, hy, rfl⟩ := Option.map_eq_some_iff.1 hc
  simp only [opv, Option.some.injEq, Prod.mk.injEq] at hv
  obtain ⟨rfl, rfl⟩ := hv
  exact ⟨w, .inl ⟨a.eval x, rfl, .same h (opd_rel hy hR)⟩⟩
 | assign x =>
  obtain ⟨y, hy, rfl⟩ := Option.map_eq_some_iff.1 hc
  simp only [opv, Option.some.injEq, Prod.mk.injEq] at hv
  obtain ⟨rfl, rfl⟩ := hv
  exact ⟨w, .inl ⟨a.eval x, rfl, .same h (opd_rel hy hR)⟩⟩
 | pick x y z =>
  simp only [compOp] at hc
  split at hc
  ·rename_i ax ay az e1 e2 e3
   injection hc with hc
   subst hc
   obtain ⟨q1, q2⟩ := map_pair hv
   simp only at q1 q2
   subst q2
   obtain ⟨u, r1, r2⟩ := pick_sound (opd_rel e1 hR) (opd_rel e2 hR) (opd_rel e3 hR) q1
   refine ⟨w, .inl ⟨_, ?_, .same h r2⟩⟩
   simp [execOp, r1, asBool]
  ·cases hc
 | alloc e =>
  simp only [compOp] at hc
  split at hc
  ·obtain ⟨zs, hz, rfl⟩ := Option.map_eq_some_iff.1 hc
   simp only [opv] at hv
   split at hv
   ·cases hv
   rename_i hne
   simp only [Option.some.injEq] at hv
   obtain ⟨z, z1, z2⟩ := zeroP_run hz
   obtain ⟨c1, c2, c3⟩ := cells_rel (I := G.I) z2
   have := (newBox_sound h (arr := z.cells) e none (fun _ e => by cases e) (fun e => hne (by rw [e]; rfl)) c2 (Row2.le ⟨c1, fun i hi => .cl (c3 i hi)⟩)).1
   rw [hv] at this
   refine .val ⟨_, _, ?_, this⟩
   simp only [Instr.alloc, Sem.run_bind, zeroValue_run z1, Result.andThen_ok]
   simp [newVar, newRow]
  ·obtain ⟨zs, hz, rfl⟩ := Option.map_eq_some_iff.1 hc
   simp only [opv] at hv
   obtain ⟨z, z1, z2⟩ := zeroP_run hz
   obtain ⟨c1, c2, c3⟩ := cells_rel (I := G.I) z2
   refine .val ⟨_, _, ?_, slot_sound h e c2 ⟨c1, fun i hi => .cl (c3 i hi)⟩ hv⟩
   simp only [Instr.alloc, Sem.run_bind, zeroValue_run z1, Result.andThen_ok]
   simp [newVar, newRow]
 | box e x =>
  simp only [compOp] at hc
  split at hc
  ·rename_i n y e1 e2
   injection hc with hc
   subst hc
   simp only [opv, boxOp] at hv
   split at hv
   ·rename_i hcond
    injection hv with hv
    have hx := opd_rel e2 hR
    have hrow := hx.cells hcond.2.1
    have := (newBox_sound h (arr := (a.eval x).cells) e none (fun _ e => by cases e) (fun e => by have h1 := hcond.1; have h2 := hcond.2.2; rw [e] at h1; simp at h1; omega) (List.all_eq_true.1 hcond.2.1) hrow.le).1
    rw [hv] at this
    refine .val ⟨_, _, ?_, this⟩
    simp [Instr.box, newVar, newRow]
   ·cases hv
  ·cases hc
 | build t parts =>
  simp only [compOp] at hc
  split at hc
  ·rename_i z fs e1 e2
   split at hc
   ·rename_i hall
    obtain ⟨ps, hps, rfl⟩ := Option.map_eq_some_iff.1 hc
    simp only [opv] at hv
    obtain ⟨cs, hcs, hv⟩ := Option.map_eq_some_iff.1 hv
    injection hv with h1 h2
    subst h1 h2
    exact .pureVal h (buildStruct_sound hR e1 e2 hall hps hcs)
   ·cases hc
  ·rename_i z n e e1 e2
   split at hc
   ·rename_i sz e3
    obtain ⟨ps, hps, rfl⟩ := Option.map_eq_some_iff.1 hc
    simp only [opv] at hv
    obtain ⟨cs, hcs, hv⟩ := Option.map_eq_some_iff.1 hv
    injection hv with h1 h2
    subst h1 h2
    exact .pureVal h (buildArr_sound hR e1 e2 e3 hps hcs)
   ·cases hc
  ·cases hc
 | buildSlice t len parts =>
  simp only [compOp] at hc
  split at hc
  ·rename_i e ht
   split at hc
   ·rename_i sz z ps e1 e2 e3
    split at hc
    ·rename_i hcond
     injection hc with hc
     split at hc
     ·rename_i q hq
      subst hc
      obtain ⟨rfl, hp⟩ : len = 1 ∧ parts = #[(0, .tmp q)] := by
       unfold oneSlice at hq
       split at hq
       case h_2 => cases hq
       rename_i i t' hpl
       split at hq
       case h_2 => cases hq
       split at hq
       case isFalse => cases hq
       rename_i hcc
       injection hq with hq
       subst hq
       obtain ⟨_, rfl, rfl⟩ := hcc
       refine ⟨rfl, ?_⟩
       have := congrArg List.toArray hpl
       simpa using this
      subst hp
      exact .val (buildFz_sound h hR ht e1 e2 hcond.1 hcond.2.1 hcond.2.2 hv)
     ·subst hc
      simp only [opv] at hv
      obtain ⟨rs, hrs, hv⟩ := Option.map_eq_some_iff.1 hv
      injection hv with h1 h2
      subst h1 h2
      exact .val (buildSlice_sound h hR ht e1 e2 e3 hcond.1 hcond.2.1 hcond.2.2 hrs)
    ·cases hc
   ·cases hc
  ·cases hc
 | load t x =>
  simp only [compOp] at hc
  split at hc
  ·rename_i g n y e1 e2 e3
   injection hc with hc
   split at hc
   ·subst hc
    exact pureOp hv fun e => load_sound h (opd_rel e3 hR) e e1 e2
   ·subst hc
    refine pureOp hv fun e => load_sound h (opd_rel e3 hR) ?_ e1 e2
    unfold loadrOp at e
    split at e
    ·split at e
     ·cases e
     ·rename_i hx _; rw [hx]; exact e
    ·exact e
  ·cases hc
 | store t x y =>
  simp only [compOp] at hc
  split at hc
  ·rename_i n ax ay e1 e2 e3
   injection hc with hc
   have hm : ∃ m, s' = m ∧ v = AV.undef ∧ s.store n (evalT ρ ax) (evalT ρ ay) = some m := by
    split at hc
    ·subst hc
     simp only [opv] at hv
     obtain ⟨m, hm, hv⟩ := Option.map_eq_some_iff.1 hv
     injection hv with h1 h2
     exact ⟨m, h2.symm, h1.symm, hm⟩
    ·subst hc
     simp only [opv] at hv
     obtain ⟨m, hm, hv⟩ := Option.map_eq_some_iff.1 hv
     injection hv with h1 h2
     refine ⟨m, h2.symm, h1.symm, ?_⟩
     unfold fillOp at hm
     split at hm
     ·split at hm
      ·rename_i hx _; rw [hx]; exact hm
      ·cases hm
     ·cases hm
   obtain ⟨m, rfl, rfl, hm⟩ := hm
   obtain ⟨w', r1, r2⟩ := store_sound h (opd_rel e2 hR) (opd_rel e3 hR) e1 hm
   exact ⟨w', .inr ⟨by simp [execOp, r1], r2⟩⟩
  ·cases hc
 | nilCheck x =>
  obtain ⟨y, hy, rfl⟩ := Option.map_eq_some_iff.1 hc
  obtain ⟨q1, q2⟩ := map_pair hv
  simp only at q1 q2
  subst q2
  obtain ⟨r1, n1, n2, n3, n4⟩ := nilCheck_sound (opd_rel hy hR) q1
  refine ⟨w, .inl ⟨a.eval x, ?_, .same h r1⟩⟩
  unfold execOp
  simp only
  rfl
 | binOp op t x y yt =>
  obtain ⟨ax, ay, e1, e2, hq⟩ := compBin_cases hc
  rcases hq with rfl | ⟨neg, neg', kd, c, d, hneg, hm, rfl⟩
  ·refine pureOp hv fun e => ?_
   obtain ⟨z, r1, r2, r3, r4⟩ := arith_sound (P := P) (w := w) t (opd_rel e1 hR) (opd_rel e2 hR) e
   exact ⟨z, by simp [eqGuard_other r3 r4, r1], r2⟩
  ·simp only [opv] at hv
   obtain ⟨t', ht', hv⟩ := Option.map_eq_some_iff.1 hv
   injection hv with h1 h2
   subst h1 h2
   exact .pureVal h ⟨_, eqv_sound hneg (opd_rel e1 hR) (opd_rel e2 hR) hm ht', .val _ rfl⟩
 | unOp op t x =>
  obtain ⟨y, hy, rfl⟩ := Option.map_eq_some_iff.1 hc
  exact pureOp hv fun e => unOp_sound (opd_rel hy hR) e
 | convert src dst x =>
  simp only [compOp] at hc
  obtain ⟨y, hy, hc⟩ := Option.bind_eq_some_iff.1 hc
  have hk : ∃ kd, aop = .conv kd y := by
   unfold compConv at hc
   split at hc
   ·injection hc with hc; exact ⟨_, hc.symm⟩
   ·injection hc with hc; exact ⟨_, hc.symm⟩
   ·split at hc
    ·injection hc with hc; exact ⟨_, hc.symm⟩
    ·cases hc
   ·split at hc
    ·injection hc with hc; exact ⟨_, hc.symm⟩
    ·cases hc
   ·cases hc
  obtain ⟨kd, rfl⟩ := hk
  obtain ⟨q1, q2⟩ := map_pair hv
  simp only at q1 q2
  subst q2
  exact .val (conv_sound (x := x) (op := .lenArr 0) h hc (opd_rel hy hR) q1)
 | makeInterface t x =>
  simp only [compOp] at hc
  split at hc
  ·cases hc
  ·rename_i d hni hd
   obtain ⟨y, hy, rfl⟩ := Option.map_eq_some_iff.1 hc
   refine pureOp hv fun e => ⟨.iface t (a.eval x), ?_, iface_sound (opd_rel hy hR) e⟩
   simp only [Instr.makeInterface, Sem.run_bind, run_underlying hd, Result.andThen_ok]
   cases d <;> first | (exact absurd hd (hni _)) | rfl
  ·cases hc
 | makeFunc fn first caps =>
  cases fn with
  | func f =>
   simp only [compOp] at hc
   split at hc
   ·rename_i af ac e1 e2
    injection hc with hc
    subst hc
    simp only [opv] at hv
    split at hv
    ·rename_i hcl
     injection hv with hv
     injection hv with h1 h2
     subst h1 h2
     have := mkFn_sound (f := f) hR e1 e2 hcl
     exact .pureVal h ⟨_, by simp [Instr.makeFunc]; rfl, by simpa using this⟩
    ·cases hv
   ·cases hc
  | _ => simp [compOp] at hc
 | makeSlice t l c =>
  simp only [compOp] at hc
  split at hc
  ·rename_i e ht
   split at hc
   ·rename_i sz n z al ac e1 e2 e3 e4 e5
    split at hc
    ·rename_i hcond
     injection hc with hc
     subst hc
     exact .val (mkSlice_sound h ht e1 e2 e3 hcond.2.2 hcond.1 hcond.2.1 (opd_rel e4 hR) (opd_rel e5 hR) hv)
    ·cases hc
   ·cases hc
  ·cases hc
 | slice t x lo hi mx =>
  simp only [compOp] at hc
  split at hc
  ·rename_i ax al ah am e1 e2 e3 e4
   split at hc
   ·rename_i ht
    injection hc with hc
    subst hc
    exact pureOp hv fun e => sliceOp_sound (kd := .str) ht (opd_rel e1 hR) (opt_rel e2 hR) (opt_rel e3 hR) (opt_rel e4 hR) e
   ·rename_i e0 ht
    obtain ⟨sz, hsz, rfl⟩ := Option.map_eq_some_iff.1 hc
    exact pureOp hv fun e => sliceOp_sound (kd := .sl sz) ⟨e0, ht, hsz⟩ (opd_rel e1 hR) (opt_rel e2 hR) (opt_rel e3 hR) (opt_rel e4 hR) e
   ·rename_i n e0 ht
    obtain ⟨sz, hsz, rfl⟩ := Option.map_eq_some_iff.1 hc
    exact pureOp hv fun e => sliceOp_sound (kd := .arr n sz) ⟨e0, ht, hsz⟩ (opd_rel e1 hR) (opt_rel e2 hR) (opt_rel e3 hR) (opt_rel e4 hR) e
   ·cases hc
  ·cases hc
 | fieldAddr t x i =>
  simp only [compOp] at hc
  split at hc
  ·rename_i fs ax ht e1
   split at hc
   ·rename_i f hf
    split at hc
    ·rename_i n hn'
     split at hc
     ·rename_i h0
      injection hc with hc
      subst hc
      exact pureOp hv fun e => fieldAddr_sound ht hf hn' h0 (opd_rel e1 hR) e
     ·cases hc
    ·cases hc
   ·cases hc
  ·cases hc
 | field t x i =>
  simp only [compOp] at hc
  split at hc
  ·rename_i fs ax ht e1
   split at hc
   ·rename_i f hf
    split at hc
    ·rename_i g n hg hn'
     injection hc with hc
     subst hc
     exact pureOp hv fun e => field_sound ht hf hg hn' (opd_rel e1 hR) e
    ·cases hc
   ·cases hc
  ·cases hc
 | indexAddr t x i =>
  simp only [compOp] at hc
  split at hc
  ·rename_i ax ai e1 e2
   split at hc
   ·rename_i n e0 ht
    obtain ⟨sz, hsz, rfl⟩ := Option.map_eq_some_iff.1 hc
    exact pureOp hv fun e => indexArr_sound ht hsz (opd_rel e1 hR) (opd_rel e2 hR) e
   ·rename_i e0 ht
    obtain ⟨sz, hsz, rfl⟩ := Option.map_eq_some_iff.1 hc
    exact pureOp hv fun e => indexSl_sound ht hsz (opd_rel e1 hR) (opd_rel e2 hR) e
   ·cases hc
  ·cases hc
 | index t x i =>
  simp only [compOp] at hc
  split at hc
  ·rename_i ax ai e1 e2
   split at hc
   ·rename_i n e0 ht
    split at hc
    ·rename_i g sz hg hsz
     injection hc with hc
     subst hc
     exact pureOp hv fun e => index_sound ht hg hsz (opd_rel e1 hR) (opd_rel e2 hR) e
    ·cases hc
   ·rename_i ht
    injection hc with hc
    subst hc
    exact pureOp hv fun e => indexStr_sound ht (opd_rel e1 hR) (opd_rel e2 hR) e
   ·cases hc
  ·cases hc
 | extract x i =>
  obtain ⟨y, hy, rfl⟩ := Option.map_eq_some_iff.1 hc
  exact pureOp hv fun e => extract_sound (opd_rel hy hR) e
 | call c => exact callOp_sound h hR (ty := ty) hc hn hv
 | panic x =>
  simp only [compOp] at hc
  injection hc with hc
  subst hc
  simp [opv, evalT, nilCheckOp] at hv
 | _ => simp [compOp] at hc
end
end Go.Ax

/-
  An activation begins, and ends.
-/
namespace Go.Ax
open Go.RowKit
section
variable {P : Program} {B0 : Nat} {w0 : World} {G : Ghost} {k nl : Nat} {w : World} {s : Sig}
def Ghost.pushA (G : Ghost) (nl : Nat) : Ghost := { G with acts := G.acts ++ [⟨[], [], nl, [], fun _ => none⟩] }
theorem Ghost.pushA_le (G : Ghost) (n : Nat) (k nl : Nat) : GLe k nl G (G.pushA n) :=
 ⟨fun _ _ _ e => e, fun _ gr _ e => ⟨gr, get_old e, .refl gr, fun _ => rfl⟩, fun _ _ _ e => e⟩
theorem push_sound (h : SRel P B0 w0 G s w) : At P B0 w0 (G.pushA s.loops.length) s.acts.length s.loops.length (s.push ⟨[], []⟩) w := by
 have hle := G.pushA_le s.loops.length
 have hk : KeepsOwn (fun _ => False) G w (G.pushA s.loops.length) w := fun b o e _ => ⟨e, rfl, fun _ e => e⟩
 have hnew : (G.pushA s.loops.length).acts[s.acts.length]? = some ⟨[], [], s.loops.length, [], fun _ => none⟩ := by
  simp [Ghost.pushA, ← h.len]
 refine ⟨⟨h.imm, by simp [Ghost.pushA, Sig.push, h.len], h.llen, fun d r gr h1 h2 => ?_, fun l lp r h1 h2 => ?_, fun d gr h1 => ?_, fun d d' gr gr' hd h1 h2 => ?_, h.below, h.low, h.ownlt⟩, by simp [Sig.push], _, hnew, rfl⟩
 ·rcases get_push h1 with ⟨hd, h1⟩ | ⟨hd, rfl⟩
  ·rcases get_push h2 with ⟨_, h2⟩ | ⟨hd', _⟩
   ·exact (h.rec_ d r gr h1 h2).keep (hle _ _) hk (fun o ho => ho.elim)
   ·rw [h.len] at hd'; omega
  ·rcases get_push h2 with ⟨hd', _⟩ | ⟨_, rfl⟩
   ·rw [h.len] at hd'; omega
   ·exact ⟨rfl, rfl, fun b cs blk e => by simp at e, fun b blk e => by simp at e, fun g n T e => by simp at e, fun i b e => by simp at e, fun b n e => by cases e⟩
 ·have hr := h.loop l lp r h1 h2
  obtain ⟨k1, k2, _⟩ := hk _ _ hr.2.1 (fun x => x)
  exact hr.keep (fun k nl _ _ => hle k nl) (by simp [Ghost.pushA]) k1 k2
 ·rcases get_push h1 with ⟨_, h1⟩ | ⟨_, rfl⟩
  ·exact h.nls d gr h1
  ·exact Nat.le_refl _
 ·rcases get_push h1 with ⟨hl1, h1⟩ | ⟨hl1, rfl⟩
  ·rcases get_push h2 with ⟨_, h2⟩ | ⟨_, rfl⟩
   ·exact h.nlm d d' gr gr' hd h1 h2
   ·exact h.nls d gr h1
  ·rcases get_push h2 with ⟨hl2, _⟩ | ⟨_, rfl⟩
   ·omega
   ·exact Nat.le_refl _
def Ghost.dropMarks (G : Ghost) (k : Nat) : Ghost :=
 { G with acts := G.acts.modify k fun q => { q with marks := [] }, own := fun b => match G.own b with
  | some (.mark d i) => if d = k then none else some (.mark d i)
  | o => o }
theorem Ghost.dropMarks_le (G : Ghost) (k nl : Nat) {k' : Nat} (hk : k' ≤ k) : GLe k' nl G (G.dropMarks k) :=
 ⟨fun _ _ _ e => e, fun d gr hd e => by
  by_cases hdk : k = d
  ·subst hdk
   exact ⟨{ gr with marks := [] }, by simp only [Ghost.dropMarks, modify_get, if_pos, e]; rfl, ⟨fun _ _ e => e, fun _ T e => ⟨T, e, .refl T⟩, rfl, fun _ _ e => e⟩, fun hlt => by omega⟩
  ·exact ⟨gr, by simp only [Ghost.dropMarks, modify_get, if_neg hdk, e], .refl gr, fun _ => rfl⟩, fun _ _ _ e => e⟩
theorem Ghost.dropMarks_own {G : Ghost} {k b : Nat} {o : Owner} (h : G.own b = some o) (ho : ∀ i, o ≠ .mark k i) : (G.dropMarks k).own b = some o := by
 simp only [Ghost.dropMarks, h]
 cases o with
 | mark d i =>
  simp only
  rw [if_neg (fun e => ho i (by rw [e]))]
 | _ => rfl
theorem dropMarks_sound (h : At P B0 w0 G k nl s w) : At P B0 w0 (G.dropMarks k) k nl s w := by
 have hlen : G.acts.length = k + 1 := by rw [h.rel.len, h.len]
 have hk : KeepsOwn (fun o => ∃ i, o = .mark k i) G w (G.dropMarks k) w := fun b o e ho => ⟨Ghost.dropMarks_own e (fun i e => ho ⟨i, e⟩), rfl, fun _ e => e⟩
 have hget : ∀ (d : Nat) (gr : GRec), (G.dropMarks k).acts[d]? = some gr → ∃ gr0, G.acts[d]? = some gr0 ∧ gr.nl = gr0.nl ∧ gr.bl = gr0.bl ∧ gr.tk = gr0.tk ∧ gr.gs = gr0.gs ∧ (d ≠ k → gr = gr0) ∧ (d = k → gr.marks = []) := fun d gr e => by
  simp only [Ghost.dropMarks, modify_get] at e
  by_cases hd : k = d
  ·rw [if_pos hd] at e
   obtain ⟨g0, h1, rfl⟩ := Option.map_eq_some_iff.1 e
   exact ⟨g0, h1, rfl, rfl, rfl, rfl, fun hne => absurd hd.symm hne, fun _ => rfl⟩
  ·rw [if_neg hd] at e
   exact ⟨gr, e, rfl, rfl, rfl, rfl, fun _ => rfl, fun e => absurd e.symm hd⟩
 have hs : SRel P B0 w0 (G.dropMarks k) s w := by
  refine ⟨h.rel.imm, by simp [Ghost.dropMarks, h.rel.len], h.rel.llen, fun d r gr h1 h2 => ?_, fun l lp r h1 h2 => ?_, fun d gr h1 => ?_, fun d d' gr gr' hd h1 h2 => ?_, h.rel.below, h.rel.low, fun b o e => ?_⟩
  ·obtain ⟨g0, e0, e1, e2, e3, e6, e4, e5⟩ := hget d gr h2
   have hr := h.rel.rec_ d r g0 h1 e0
   have hdk : d ≤ k := by have := (List.getElem?_eq_some_iff.1 h1).1; rw [h.len] at this; omega
   by_cases hd : d = k
   ·subst hd
    refine ⟨by rw [e2]; exact hr.blen, by rw [e3]; exact hr.tlen, fun b cs blk a1 a2 => ?_, fun b blk a1 => hr.full b blk (by rw [← e2]; exact a1), fun g n T a1 a2 => ?_, fun i b a1 => ?_, fun b n a1 => by rw [e2]; rw [e6] at a1; exact hr.gsl b n a1⟩
    ·rw [e2] at a2
     have hb := hr.box b cs blk a1 a2
     rw [e1, e6]
     exact hb.keep (G.dropMarks_le d _ (Nat.le_refl _)) (fun x e => Ghost.dropMarks_own e (fun i e => by cases e)) rfl (fun _ e => e)
    ·rw [e3] at a2
     have ht := hr.tok g n T a1 a2
     refine ht.keep (fun hn => ?_) (fun _ => rfl) (fun _ _ e => e)
     obtain ⟨m, hm⟩ := Option.isSome_iff_exists.1 hn
     exact Ghost.dropMarks_own (ht.2 m hm).2.1 (fun i e => by cases e)
    ·rw [e5 rfl] at a1
     simp at a1
   ·rw [e4 hd]
    refine hr.keep (G.dropMarks_le k _ hdk) hk (fun o ho => ?_)
    obtain ⟨i, rfl⟩ := ho
    refine ⟨fun _ e => by (cases e), fun _ e => by (cases e), fun _ e => ?_⟩
    injection e with e _
    exact hd e.symm
  ·have hr := h.rel.loop l lp r h1 h2
   obtain ⟨k1, k2, _⟩ := hk _ _ hr.2.1 (fun ⟨i, e⟩ => by cases e)
   exact hr.keep (fun k' nl' a1 _ => G.dropMarks_le k _ (by omega)) (by simp [Ghost.dropMarks]) k1 k2
  ·obtain ⟨g0, e0, e1, _⟩ := hget d gr h1
   rw [e1]
   exact h.rel.nls d g0 e0
  ·obtain ⟨g0, e0, e1, _⟩ := hget d gr h1
   obtain ⟨g0', e0', e1', _⟩ := hget d' gr' h2
   rw [e1, e1']
   exact h.rel.nlm d d' g0 g0' hd e0 e0'
  ·simp only [Ghost.dropMarks] at e
   cases ho : G.own b with
   | none => rw [ho] at e; cases e
   | some o' => exact h.rel.ownlt b o' ho
 exact h.to hs (G.dropMarks_le k nl (Nat.le_refl _)) rfl
theorem putMark {b : Nat} {o o' : Obj} (h : At P B0 w0 G k nl s w) (hb : B0 ≤ b) (hown : G.own b = none) (hw : w.heap[b]? = some o) (hc : ∀ a t f, o ≠ .cells a t f) : At P B0 w0 G k nl s (w.putObj b o') := by
 have hI : ∀ i v, G.I b i ≠ some v := fun i v e => by
  have := h.rel.imm b i v e
  simp only [World.cell?, hw] at this
  cases o <;> first | (exact absurd rfl (hc _ _ _)) | (simp at this)
 have hs : SRel P B0 w0 G s (w.putObj b o') := by
  refine h.rel.keep (fun _ _ _ e => e) rfl rfl (fun c q e _ => ⟨e, World.putObj_heap_other (fun hcb => ?_), fun _ e => e⟩) (fun c i v e => ?_) ?_ (fun c q e => ?_)
  ·subst hcb
   rw [hown] at e
   cases e
  ·have hne : c ≠ b := fun e' => hI i v (e' ▸ e)
   have := h.rel.imm c i v e
   have hh : (w.putObj b o').heap[c]? = w.heap[c]? := World.putObj_heap_other hne
   rw [← this]
   simp only [World.cell?, hh]
  ·exact ⟨rfl, rfl, rfl, by simp, fun c hc => World.putObj_heap_other (by omega)⟩
  ·rw [World.putObj_size]
   exact h.rel.ownlt c q e
 exact ⟨hs, h.len, h.cur⟩
def Ghost.popA (G : Ghost) (k : Nat) (bl : List (Option Nat)) (w : World) : Ghost where
 I := fun b i => if some b ∈ bl then w.cell? ⟨b, i, none⟩ else G.I b i
 acts := G.acts.dropLast
 loops := G.loops
 own := fun b => match G.own b with
  | some (.box d x) => if d = k then none else some (.box d x)
  | some (.tok d x) => if d = k then none else some (.tok d x)
  | some (.mark d x) => if d = k then none else some (.mark d x)
  | o => o
def ownsIn (k : Nat) (o : Owner) : Prop := (∃ b, o = .box k b) ∨ (∃ g, o = .tok k g) ∨ ∃ i, o = .mark k i
theorem Ghost.popA_own {G : Ghost} {k b : Nat} {bl : List (Option Nat)} {o : Owner} (h : G.own b = some o) (ho : ¬ ownsIn k o) : (G.popA k bl w).own b = some o := by
 simp only [Ghost.popA, h]
 cases o with
 | box d x => simp only; rw [if_neg (fun e => ho (.inl ⟨x, by rw [e]⟩))]
 | tok d x => simp only; rw [if_neg (fun e => ho (.inr (.inl ⟨x, by rw [e]⟩)))]
 | mark d x => simp only; rw [if_neg (fun e => ho (.inr (.inr ⟨x, by rw [e]⟩)))]
 | loop l => rfl
theorem Ghost.popA_free {G : Ghost} {k b : Nat} {bl : List (Option Nat)} {o : Owner} (h : G.own b = some o) (ho : ownsIn k o) : (G.popA k bl w).own b = none := by
 simp only [Ghost.popA, h]
 rcases ho with ⟨x, rfl⟩ | ⟨x, rfl⟩ | ⟨x, rfl⟩ <;> simp
theorem dropLast_get {α : Type} {l : List α} {n d : Nat} (hl : l.length = n + 1) : l.dropLast[d]? = if d < n then l[d]? else none := by
 rw [List.getElem?_dropLast]
 simp only [hl, Nat.add_sub_cancel]
theorem pop_sound (h : At P B0 w0 G k nl s w) (hll : s.loops.length = nl) {gr : GRec} (hg : G.acts[k]? = some gr) :
  SRel P B0 w0 (G.popA k gr.bl w) s.pop w ∧ (∀ b i v, G.I b i = some v → (G.popA k gr.bl w).I b i = some v) ∧ (∀ b, some b ∈ gr.bl → ∀ i, (G.popA k gr.bl w).I b i = w.cell? ⟨b, i, none⟩) ∧
  ∀ d, d < k → (G.popA k gr.bl w).acts[d]? = G.acts[d]? := by
 have hlen : G.acts.length = k + 1 := by rw [h.rel.len, h.len]
 obtain ⟨r, gr', hr, hg'⟩ := h.rec_ (Nat.le_refl k)
 rw [hg] at hg'
 injection hg' with hg'
 subst hg'
 have hrr := h.rel.rec_ k r gr hr hg
 have hnl : gr.nl = nl := by obtain ⟨g', e1, e2⟩ := h.cur; rw [hg] at e1; injection e1 with e1; rw [e1]; exact e2
 have hbox : ∀ b, some b ∈ gr.bl → ∃ x, G.own b = some (.box k x) := fun b hb => by
  obtain ⟨x, hx, hxb⟩ := List.getElem_of_mem hb
  have hx' : x < r.boxes.length := by rw [← hrr.blen]; exact hx
  have := hrr.box x _ b (List.getElem?_eq_getElem hx') (by rw [List.getElem?_eq_getElem hx, hxb])
  obtain ⟨y, hy, _⟩ := this.2.1
  exact ⟨y, hy⟩
 have hI : ∀ b i v, G.I b i = some v → (G.popA k gr.bl w).I b i = some v := fun b i v e => by
  simp only [Ghost.popA]
  split
  ·exact h.rel.imm b i v e
  ·exact e
 have hacts : ∀ d, d < k → (G.popA k gr.bl w).acts[d]? = G.acts[d]? := fun d hd => by
  simp only [Ghost.popA, dropLast_get hlen]
  rw [if_pos hd]
 have hget : ∀ (d : Nat) (q : GRec), (G.popA k gr.bl w).acts[d]? = some q → d < k ∧ G.acts[d]? = some q := fun d q e => by
  simp only [Ghost.popA, dropLast_get hlen] at e
  split at e
  ·exact ⟨by assumption, e⟩
  ·cases e
 have hle : ∀ k' nl', k' < k → GLe k' nl' G (G.popA k gr.bl w) := fun k' nl' hk' =>
  ⟨hI, fun d q hd e => ⟨q, by rw [hacts d (by omega)]; exact e, .refl q, fun _ => rfl⟩, fun _ _ _ e => e⟩
 have hko : KeepsOwn (ownsIn k) G w (G.popA k gr.bl w) w := fun b o e ho => ⟨Ghost.popA_own e ho, rfl, fun i hi => by
  simp only [Ghost.popA]
  rw [if_neg (fun hb => by
   obtain ⟨x, hx⟩ := hbox b hb
   rw [e] at hx
   injection hx with hx
   exact ho (.inl ⟨x, hx⟩))]
  exact hi⟩
 refine ⟨⟨fun b i v e => ?_, by simp [Ghost.popA, Sig.pop, h.rel.len], h.rel.llen, fun d q gq h1 h2 => ?_, fun l lp q h1 h2 => ?_, fun d q h1 => ?_, fun d d' q q' hd h1 h2 => ?_, h.rel.below, h.rel.low, fun b o e => ?_⟩, hI, fun b hb i => ?_, hacts⟩
 ·simp only [Ghost.popA] at e
  split at e
  ·exact e
  ·exact h.rel.imm b i v e
 ·obtain ⟨hdk, h2⟩ := hget d gq h2
  have h1' : s.acts[d]? = some q := by
   simp only [Sig.pop, dropLast_get h.len] at h1
   rw [if_pos hdk] at h1
   exact h1
  refine (h.rel.rec_ d q gq h1' h2).keep (hle _ _ hdk) hko (fun o ho => ?_)
  rcases ho with ⟨x, rfl⟩ | ⟨x, rfl⟩ | ⟨x, rfl⟩
  ·exact ⟨fun _ e => by (injection e with e _; omega), fun _ e => by (cases e), fun _ e => by (cases e)⟩
  ·exact ⟨fun _ e => by (cases e), fun _ e => by (injection e with e _; omega), fun _ e => by (cases e)⟩
  ·exact ⟨fun _ e => by (cases e), fun _ e => by (cases e), fun _ e => by (injection e with e _; omega)⟩
 ·have hlp := h.rel.loop l lp q h1 h2
  obtain ⟨b1, b2, rc, b3, b4⟩ := hlp
  obtain ⟨k1, k2, _⟩ := hko _ _ b2 (fun ho => by rcases ho with ⟨x, e⟩ | ⟨x, e⟩ | ⟨x, e⟩ <;> cases e)
  obtain ⟨a1, a2, a3, a4, a5, a6, a8, a9, a10, k', nl', a11, a12, a14, a13⟩ := b4
  have hl : l < nl := by have := (List.getElem?_eq_some_iff.1 h1).1; simp only [Sig.pop] at this; omega
  have hk' : k' < k := a14 k gr hg (by omega)
  refine ⟨b1, k1, rc, k2.trans b3, a1, a2, a3, a4, a5, a6, a8, a9, a10, k', nl', ?_, a12, fun d q' e hlt => a14 d q' (hget d q' e).2 hlt, fun t => (a13 t).mono (hle k' nl' hk') (Nat.le_refl _) (Nat.le_refl _)⟩
  simp [Ghost.popA, hlen]
  omega
 ·exact h.rel.nls d q (hget d q h1).2
 ·exact h.rel.nlm d d' q q' hd (hget d q h1).2 (hget d' q' h2).2
 ·simp only [Ghost.popA] at e
  cases ho : G.own b with
  | none => rw [ho] at e; cases e
  | some o' => exact h.rel.ownlt b o' ho
 ·simp only [Ghost.popA]
  rw [if_pos hb]
end
end Go.Ax

/-
  What an activation hands back.
-/
namespace Go.Ax
open Go.RowKit
section
variable {P : Program} {B0 : Nat} {w0 : World} {G : Ghost} {k nl : Nat} {w : World} {s : Sig}
theorem row_of_cells {I : IMap} {b : Nat} {arr : Array Value} {ty : TypeId} (hI : ∀ i, I b i = w.cell? ⟨b, i, none⟩) (hw : w.heap[b]? = some (.cells arr ty)) {i : Nat} (hi : i < arr.size) : I b (0 + i) = some (arr.getD i Go.undef) := by
 rw [Nat.zero_add, hI, cell_of_heap hw]
 simp [Array.getD, hi]
theorem leavePtr (h : At P B0 w0 G k nl s w) (hll : s.loops.length = nl) {gr : GRec} (hg : G.acts[k]? = some gr) {b off : Nat} {cs cs' : List AV} {z : Value} (hx : Rel G k nl (.ptr k b off) z) (hb : s.box k b = some cs) (hc : closeAll cs = some cs') :
  RelC (G.popA k gr.bl w).I (.eptr cs' off) z := by
 obtain ⟨_, hI, hcell, _⟩ := pop_sound h hll hg
 obtain ⟨blk, gr', rfl, _, hg', hbl⟩ := hx.inv_ptr
 rw [hg] at hg'
 injection hg' with hg'
 subst hg'
 obtain ⟨r, _, _, _, arr, ty, hw, hrow, hcl⟩ := h.box (Nat.le_refl k) hb hg hbl
 obtain ⟨c1, c2, c3⟩ := closeAll_rel hc hrow.1 hcl hrow.2
 have hmem : some blk ∈ gr.bl := List.mem_of_getElem? hbl
 have := RelC.eptr (I := (G.popA k gr.bl w).I) (cs := cs') (off := off) (blk := blk) (o0 := 0) (fun i => arr.getD i Go.undef) c2 (fun i hi => row_of_cells (hcell blk hmem) hw (by have := hrow.1; omega)) (fun i hi => (c3 i hi).mono hI)
 rw [Nat.zero_add] at this
 exact this
theorem leaveRsl (h : At P B0 w0 G k nl s w) (hll : s.loops.length = nl) {gr : GRec} (hg : G.acts[k]? = some gr) {b off es n cap : Nat} {cs cs' : List AV} {z : Value} (hx : Rel G k nl (.rsl k b off es n cap) z) (hb : s.box k b = some cs) (hc : closeAll cs = some cs')
  (hle : off + n * es ≤ cs.length) : RelC (G.popA k gr.bl w).I (.slice .any es (chunks es n (cs'.drop off))) z := by
 obtain ⟨_, hI, hcell, _⟩ := pop_sound h hll hg
 obtain ⟨blk, gr', rc, o0, rfl, _, hg', hbl, hn, _, _, ho⟩ := hx.inv_rsl
 rcases Nat.eq_zero_or_pos n with hn0 | hn0
 ·subst hn0
  exact .slice (fun _ _ => Go.undef) (.inl rfl) (Nat.zero_le _) (fun r hr => absurd hr (by simp [chunks])) (fun r hr => absurd hr (by simp [chunks])) (fun i hi => absurd hi (Nat.not_lt_zero _)) (fun i hi => absurd hi (Nat.not_lt_zero _))
 have ho := ho (.inl hn0)
 subst ho
 rw [hg] at hg'
 injection hg' with hg'
 subst hg'
 obtain ⟨r, _, _, _, arr, ty, hw, hrow, hcl⟩ := h.box (Nat.le_refl k) hb hg hbl
 obtain ⟨c1, c2, c3⟩ := closeAll_rel hc hrow.1 hcl hrow.2
 have hmem : some blk ∈ gr.bl := List.mem_of_getElem? hbl
 have := row_slice (I := (G.popA k gr.bl w).I) (cs := cs') (es := es) (n := n) (cap := rc) (blk := blk) (o0 := 0) (off := o0) (f := fun i => arr.getD i Go.undef) c2 (fun i hi => row_of_cells (hcell blk hmem) hw (by have := hrow.1; omega)) (fun i hi => (c3 i hi).mono hI) (by rw [c1]; exact hle) hn
 unfold SliceC at this
 rw [(chunks_spec es n (cs'.drop o0) (by simp [c1]; omega)).1, Nat.zero_add] at this
 exact this
theorem leaveCaps_sound (h : At P B0 w0 G k nl s w) (hll : s.loops.length = nl) {gr : GRec} (hg : G.acts[k]? = some gr) : ∀ {cs cs' : List AV} {vs : List Value}, vs.length = cs.length → (∀ i (hi : i < cs.length) (hj : i < vs.length), Rel G k nl cs[i] vs[i]) → leaveCaps s cs = some cs' →
  cs'.length = cs.length ∧ ∀ i (hi : i < cs'.length) (hj : i < vs.length), RelC (G.popA k gr.bl w).I cs'[i] vs[i]
 | [], cs', vs, hl, hR, hc => by
  simp only [leaveCaps] at hc
  injection hc with hc
  subst hc
  exact ⟨rfl, fun i hi => absurd hi (Nat.not_lt_zero _)⟩
 | x :: r, cs', [], hl, hR, hc => by simp at hl
 | x :: r, cs', v :: vs, hl, hR, hc => by
  have hI := (pop_sound h hll hg).2.1
  have h0 := hR 0 (by simp) (by simp)
  have hrest : ∀ i (hi : i < r.length) (hj : i < vs.length), Rel G k nl r[i] vs[i] := fun i hi hj => hR (i + 1) (by simpa using hi) (by simpa using hj)
  simp only [List.getElem_cons_zero] at h0
  have fin : ∀ {y : AV} {r' : List AV}, RelC (G.popA k gr.bl w).I y v → leaveCaps s r = some r' → cs' = y :: r' → cs'.length = (x :: r).length ∧ ∀ i (hi : i < cs'.length) (hj : i < (v :: vs).length), RelC (G.popA k gr.bl w).I cs'[i] (v :: vs)[i] := fun hy hr' e => by
   obtain ⟨i1, i2⟩ := leaveCaps_sound h hll hg (by simpa using hl) hrest hr'
   subst e
   refine ⟨by simp [i1], fun i hi hj => ?_⟩
   cases i with
   | zero => exact hy
   | succ i => exact i2 i (by simpa using hi) (by simpa using hj)
  by_cases hp : ∃ d b off, x = .ptr d b off
  ·obtain ⟨d, b, off, rfl⟩ := hp
   simp only [leaveCaps] at hc
   split at hc
   ·rename_i hd
    rw [h.cur_eq] at hd
    subst hd
    split at hc
    ·rename_i ds r' e1 e2
     injection hc with hc
     obtain ⟨cs0, hb, hcl⟩ := Option.bind_eq_some_iff.1 e1
     exact fin (leavePtr h hll hg h0 hb hcl) e2 hc.symm
    ·cases hc
   ·cases hc
  ·have he : leaveCaps s (x :: r) = if x.isClosed1 then (leaveCaps s r).map (x :: ·) else none := by
    cases x <;> first | rfl | exact absurd ⟨_, _, _, rfl⟩ hp
   rw [he] at hc
   split at hc
   ·rename_i hcl
    obtain ⟨r', hr', rfl⟩ := Option.map_eq_some_iff.1 hc
    exact fin ((h0.closed1 hcl).mono hI) hr' rfl
   ·cases hc
theorem leaveCell_sound (h : At P B0 w0 G k nl s w) (hll : s.loops.length = nl) {gr : GRec} (hg : G.acts[k]? = some gr) {kc nlc : Nat} (hkc : k ≤ kc + 1) {x y : AV} {z : Value} (hx : Rel G k nl x z) (hl : leaveCell s x = some y) :
  Rel (G.popA k gr.bl w) kc nlc y z ∧ y.isCell = true := by
 obtain ⟨_, hI, hcell, hacts⟩ := pop_sound h hll hg
 have closed : ∀ {y : AV}, x.close = some y → Rel (G.popA k gr.bl w) kc nlc y z ∧ y.isCell = true := fun e => ⟨.cl ((hx.close e).mono hI), (close_cell e).2⟩
 cases x with
 | slice o es xs =>
  cases o with
  | tok d g =>
   simp only [leaveCell] at hl
   injection hl with hl
   subst hl
   exact closed rfl
  | _ => exact closed hl
 | ptr d b off =>
  simp only [leaveCell] at hl
  split at hl
  ·rename_i hd
   rw [h.cur_eq] at hd
   subst hd
   obtain ⟨cs, hb, hl⟩ := Option.bind_eq_some_iff.1 hl
   obtain ⟨cs', hc, rfl⟩ := Option.map_eq_some_iff.1 hl
   exact ⟨.cl (leavePtr h hll hg hx hb hc), rfl⟩
  ·rename_i hd
   rw [h.cur_eq] at hd
   injection hl with hl
   subst hl
   obtain ⟨blk, gr', rfl, hdk, hg', hbl⟩ := hx.inv_ptr
   exact ⟨.ptr gr' (by omega) (by rw [hacts d (by omega)]; exact hg') hbl, rfl⟩
 | rsl d b off es n cap =>
  simp only [leaveCell] at hl
  split at hl
  ·rename_i hd
   rw [h.cur_eq] at hd
   subst hd
   obtain ⟨cs, hb, hl⟩ := Option.bind_eq_some_iff.1 hl
   split at hl
   ·rename_i hle
    obtain ⟨cs', hc, rfl⟩ := Option.map_eq_some_iff.1 hl
    exact ⟨.cl (leaveRsl h hll hg hx hb hc hle), rfl⟩
   ·cases hl
  ·cases hl
 | fn f first caps =>
  simp only [leaveCell] at hl
  split at hl
  ·rename_i hf
   obtain ⟨caps', hc, rfl⟩ := Option.map_eq_some_iff.1 hl
   obtain ⟨a1, a2, rfl, l1, l2, r1, r2⟩ := hx.inv_fn
   obtain ⟨q1, q2⟩ := leaveCaps_sound h hll hg (vs := a2.toList) (by simpa using l2) (fun i hi hj => by
    have := r2 i hi
    have e : a2.getD i Go.undef = a2.toList[i] := by
     have : i < a2.size := by simpa using hj
     simp [Array.getD, this]
    rw [← e]
    exact this) hc
   refine ⟨.cl (.fn l1 (by rw [l2, q1]) (fun i hi => (r1 i hi).mono hI) (fun i hi => ?_)), rfl⟩
   have hi2 : i < a2.size := by rw [l2, ← q1]; exact hi
   have := q2 i hi (by simpa using hi2)
   have e : a2.getD i Go.undef = a2.toList[i]'(by simpa using hi2) := by simp [Array.getD, hi2]
   rw [e]
   exact this
  ·cases hl
 | _ => exact closed hl
theorem leaveCells_sound (h : At P B0 w0 G k nl s w) (hll : s.loops.length = nl) {gr : GRec} (hg : G.acts[k]? = some gr) {kc nlc : Nat} (hkc : k ≤ kc + 1) : ∀ {cs cs' : List AV} {vs : List Value}, vs.length = cs.length → (∀ i (hi : i < cs.length) (hj : i < vs.length), Rel G k nl cs[i] vs[i]) →
  leaveCells s cs = some cs' → cs'.length = cs.length ∧ ∀ i (hi : i < cs'.length) (hj : i < vs.length), Rel (G.popA k gr.bl w) kc nlc cs'[i] vs[i] ∧ cs'[i].isCell = true
 | [], cs', vs, hl, hR, hc => by
  simp only [leaveCells] at hc
  injection hc with hc
  subst hc
  exact ⟨rfl, fun i hi => absurd hi (Nat.not_lt_zero _)⟩
 | x :: r, cs', [], hl, hR, hc => by simp at hl
 | x :: r, cs', v :: vs, hl, hR, hc => by
  simp only [leaveCells] at hc
  split at hc
  ·rename_i y r' e1 e2
   injection hc with hc
   subst hc
   obtain ⟨i1, i2⟩ := leaveCells_sound h hll hg hkc (nlc := nlc) (by simpa using hl) (fun i hi hj => hR (i + 1) (by simpa using hi) (by simpa using hj)) e2
   refine ⟨by simp [i1], fun i hi hj => ?_⟩
   cases i with
   | zero => exact leaveCell_sound h hll hg hkc (hR 0 (by simp) (by simp)) e1
   | succ i => exact i2 i (by simpa using hi) (by simpa using hj)
  ·cases hc
theorem leaveVal_sound (h : At P B0 w0 G k nl s w) (hll : s.loops.length = nl) {gr : GRec} (hg : G.acts[k]? = some gr) {kc nlc : Nat} (hkc : k ≤ kc + 1) {x y : AV} {z : Value} (hx : Rel G k nl x z) (hl : leaveVal s x = some y) :
  Rel (G.popA k gr.bl w) kc nlc y z := by
 by_cases hag : ∃ cs, x = .agg cs
 ·obtain ⟨cs, rfl⟩ := hag
  simp only [leaveVal] at hl
  obtain ⟨cs', hc, rfl⟩ := Option.map_eq_some_iff.1 hl
  obtain ⟨arr, rfl, l1, hcl, hR⟩ := hx.inv_agg
  have conv : ∀ i (hi : i < arr.size), arr.getD i Go.undef = arr.toList[i]'(by simpa using hi) := fun i hi => by simp [Array.getD, hi]
  obtain ⟨q1, q2⟩ := leaveCells_sound h hll hg hkc (nlc := nlc) (vs := arr.toList) (by simpa using l1) (fun i hi hj => by rw [← conv i (by simpa using hj)]; exact hR i hi) hc
  refine .agg (by rw [l1, q1]) (fun c hc => ?_) (fun i hi => ?_)
  ·obtain ⟨i, hi, rfl⟩ := List.getElem_of_mem hc
   exact (q2 i hi (by simp; omega)).2
  ·have hi' : i < arr.size := by omega
   rw [conv i hi']
   exact (q2 i hi (by simpa using hi')).1
 ·have : leaveVal s x = leaveCell s x := by
   cases x <;> first | rfl | exact absurd ⟨_, rfl⟩ hag
  rw [this] at hl
  exact (leaveCell_sound h hll hg hkc hx hl).1
def resOf (tmps : Array Value) : ResultVar → Sem Value
 | .tmp t => pure (tmps.getD t Go.undef)
 | .cell a t => do loadVar t (← asAddr (tmps.getD a Go.undef))
theorem resultRaw_sound {st : St} {a : Act} (h : At P B0 w0 G k nl st.sig w) (hR : TmpsRel G k nl st.tmps a) {r : ResultVar} {ar : ARes} (hc : compRes P r = some ar) {x : AV} (hx : resultRaw st ar = some x) :
  ∃ z, (resOf a.tmps r).run P w = .ok z w ∧ Rel G k nl x z := by
 cases r with
 | tmp t =>
  simp only [compRes] at hc
  injection hc with hc
  subst hc
  simp only [resultRaw] at hx
  injection hx with hx
  subst hx
  exact ⟨_, rfl, hR t⟩
 | cell t ty =>
  simp only [compRes, resCell] at hc
  split at hc
  ·rename_i g n e1 e2
   injection hc with hc
   subst hc
   simp only [resultRaw] at hx
   obtain ⟨z, r1, r2⟩ := load_sound h (hR t) hx e1 e2
   refine ⟨z, ?_, r2⟩
   have hp : ∃ p, a.tmps.getD t Go.undef = .pointer (some p) := by
    unfold Sig.load at hx
    obtain ⟨q, hq, _⟩ := Option.bind_eq_some_iff.1 hx
    have hrt := hR t
    cases hst : st.tmps t with
    | ptr d b off => rw [hst] at hrt; obtain ⟨blk, gr, e, _⟩ := hrt.inv_ptr; exact ⟨_, e⟩
    | eptr cs off => rw [hst] at hrt; obtain ⟨blk, o0, f, e, _⟩ := hrt.inv_eptr; exact ⟨_, e⟩
    | _ => rw [hst] at hq; simp [Sig.row] at hq
   obtain ⟨p, hp⟩ := hp
   simp only [resOf, hp, asAddr, Sem.run_bind, Sem.run_pure, Result.andThen_ok]
   rw [hp] at r1
   simpa [Instr.loadAt, Instr.sureAddr] using r1
  ·cases hc
theorem resultsOf_run {st : St} {a : Act} (h : At P B0 w0 G k nl st.sig w) (hR : TmpsRel G k nl st.tmps a) (hll : st.sig.loops.length = nl) {gr : GRec} (hg : G.acts[k]? = some gr) {kc nlc : Nat} (hkc : k ≤ kc + 1) : ∀ {rs : List ResultVar} {ars : List ARes} {l : List AV},
  mapO (compRes P) rs = some ars → resultsOf st ars = some l → ∃ vs : List Value, (rs.mapM (resOf a.tmps)).run P w = .ok vs w ∧ vs.length = l.length ∧ ∀ i (hi : i < l.length) (hj : i < vs.length), Rel (G.popA k gr.bl w) kc nlc l[i] vs[i]
 | [], ars, l, hm, hr => by
  simp only [mapO] at hm
  injection hm with hm
  subst hm
  simp only [resultsOf] at hr
  injection hr with hr
  subst hr
  exact ⟨[], by simp, rfl, fun i hi => absurd hi (Nat.not_lt_zero _)⟩
 | r :: rs, ars, l, hm, hr => by
  simp only [mapO] at hm
  split at hm
  ·rename_i ar ars' e1 e2
   injection hm with hm
   subst hm
   simp only [resultsOf] at hr
   split at hr
   ·rename_i x l' f1 f2
    injection hr with hr
    subst hr
    obtain ⟨x0, hx0, hx1⟩ := Option.bind_eq_some_iff.1 f1
    obtain ⟨z, r1, r2⟩ := resultRaw_sound h hR e1 hx0
    obtain ⟨vs, v1, v2, v3⟩ := resultsOf_run h hR hll hg hkc (nlc := nlc) e2 f2
    refine ⟨z :: vs, ?_, by simp [v2], fun i hi hj => ?_⟩
    ·simp only [List.mapM_cons, Sem.run_bind, r1, Result.andThen_ok, v1, Sem.run_pure]
    ·cases i with
     | zero => exact leaveVal_sound h hll hg hkc r2 hx1
     | succ i => exact v3 i (by simpa using hi) (by simpa using hj)
   ·cases hr
  ·cases hm
theorem results_run {fn : Func} {tmps : Array Value} {vs : List Value} (h : (fn.results.toList.mapM (resOf tmps)).run P w = .ok vs w) :
  (results fn tmps).run P w = .ok (if h : vs.toArray.size = 1 then vs.toArray[0] else .tuple vs.toArray) w := by
 have e : results fn tmps = (do let vs ← fn.results.mapM (resOf tmps); pure (if h : vs.size = 1 then vs[0] else .tuple vs)) := by
  unfold results
  congr 1
 rw [e]
 simp only [Array.mapM_eq_mapM_toList, Sem.run_bind, Sem.run_map, h, Result.andThen_ok, Sem.run_pure]
theorem packed_rel {G' : Ghost} {kc nlc : Nat} {l : List AV} {vs : List Value} (hl : vs.length = l.length) (hR : ∀ i (hi : i < l.length) (hj : i < vs.length), Rel G' kc nlc l[i] vs[i]) :
  Rel G' kc nlc (packed l) (if h : vs.toArray.size = 1 then vs.toArray[0] else .tuple vs.toArray) := by
 match l, vs, hl with
 | [], [], _ => exact .tuple rfl (fun i hi => absurd hi (Nat.not_lt_zero _))
 | [x], [v], _ => exact hR 0 (by simp) (by simp)
 | x :: y :: l, v :: u :: vs, hl =>
  have : ¬ ((v :: u :: vs).toArray.size = 1) := by simp
  rw [dif_neg this]
  refine .tuple (by simpa using hl) (fun i hi => ?_)
  have hi' : i < (v :: u :: vs).length := by rw [hl]; exact hi
  have := hR i hi hi'
  have e : (v :: u :: vs).toArray.getD i Go.undef = (v :: u :: vs)[i] := by
   have : i < vs.length + 1 + 1 := by simpa using hi'
   simp [Array.getD, this]
  rw [e]
  exact this
theorem leaveCaps_ro {r l : Nat} : ∀ {caps : List AV}, leaveCaps { s with ro := r, lro := l } caps = leaveCaps s caps
 | [] => rfl
 | x :: rest => by
  have ih := leaveCaps_ro (r := r) (l := l) (caps := rest)
  cases x <;> simp only [leaveCaps, ih] <;> rfl
theorem leaveCell_ro {r l : Nat} {x : AV} : leaveCell { s with ro := r, lro := l } x = leaveCell s x := by
 cases x with
 | slice o es xs => cases o <;> rfl
 | fn f first caps => simp only [leaveCell, leaveCaps_ro]
 | _ => rfl
theorem leaveCells_ro {r l : Nat} : ∀ {cs : List AV}, leaveCells { s with ro := r, lro := l } cs = leaveCells s cs
 | [] => rfl
 | x :: rest => by simp only [leaveCells, leaveCell_ro, leaveCells_ro]
theorem leaveVal_ro {r l : Nat} {x : AV} : leaveVal { s with ro := r, lro := l } x = leaveVal s x := by
 cases x with
 | agg cs => simp only [leaveVal, leaveCells_ro]
 | slice o es xs => cases o <;> rfl
 | fn f first caps =>
  simp only [leaveVal, leaveCell, leaveCaps_ro]
 | _ => rfl
theorem ownResult_sound (h : At P B0 w0 G k nl s w) (hll : s.loops.length = nl) {kc nlc : Nat} (hkc : k ≤ kc + 1) {x0 x : AV} {z : Value} {s' : Sig} (r2 : Rel G k nl x0 z) (hf0 : ownResult s x0 = some (x, s')) :
  ∃ G', SRel P B0 w0 G' s' w ∧ s'.acts.length = k ∧ s'.loops = s.loops ∧ (∀ b i v, G.I b i = some v → G'.I b i = some v) ∧
   (∀ d gr, d < k → G.acts[d]? = some gr → ∃ gr', G'.acts[d]? = some gr' ∧ RecLe gr gr' ∧ gr'.marks = gr.marks) ∧ (∀ l r : Nat, G.loops[l]? = some r → G'.loops[l]? = some r) ∧ Rel G' kc nlc x z := by
 obtain ⟨gr, hg, _⟩ := h.cur
 obtain ⟨hp, hI, hcell, hacts⟩ := pop_sound h hll hg
 have hkeep : ∀ d q, d < k → G.acts[d]? = some q → ∃ q', (G.popA k gr.bl w).acts[d]? = some q' ∧ RecLe q q' ∧ q'.marks = q.marks := fun d q hd e => ⟨q, by rw [hacts d hd]; exact e, .refl q, rfl⟩
 have other : ∀ {y : AV}, leaveVal s x0 = some y → x = y → s' = s.pop → ∃ G', SRel P B0 w0 G' s' w ∧ s'.acts.length = k ∧ s'.loops = s.loops ∧ (∀ b i v, G.I b i = some v → G'.I b i = some v) ∧
   (∀ d gr, d < k → G.acts[d]? = some gr → ∃ gr', G'.acts[d]? = some gr' ∧ RecLe gr gr' ∧ gr'.marks = gr.marks) ∧ (∀ l r : Nat, G.loops[l]? = some r → G'.loops[l]? = some r) ∧ Rel G' kc nlc x z := fun hy ex es => by
  subst ex es
  exact ⟨_, hp, by simp [Sig.pop, h.len], rfl, hI, hkeep, fun _ _ e => e, leaveVal_sound h hll hg hkc r2 hy⟩
 unfold ownResult at hf0
 split at hf0
 ·rename_i d g es xs
  split at hf0
  ·rename_i hcond
   obtain ⟨hd, hd1, _, htok⟩ := hcond
   injection hf0 with hf0
   injection hf0 with hf1 hf2
   rw [h.cur_eq] at hd
   subst hd
   subst hf1 hf2
   cases r2 with
   | cl r2 => cases r2 with
    | slice f ho => rcases ho with h | ⟨h, _⟩ <;> cases h
    | empty ho => rcases ho with h | h <;> cases h
   | @tok _ _ _ _ av cap T gr' hd hg' ht hes hxc hn =>
   rw [hg] at hg'
   injection hg' with hg'
   subst hg'
   obtain ⟨r, hr, hrt⟩ := tok_eq htok
   have hrr := h.rel.rec_ _ r gr hr hg
   obtain ⟨hTn, hT2⟩ := hrr.tok g _ T hrt ht
   obtain ⟨t1, t2, t3, t4, t5, arr, ty, t6, t7⟩ := hT2 _ rfl
   obtain ⟨_, heq⟩ := hn _ hTn
   obtain ⟨rfl, rfl⟩ := heq rfl
   have hfree : (G.popA d gr.bl w).own T.blk = none := Ghost.popA_free t2 (.inr (.inl ⟨g, rfl⟩))
   obtain ⟨rc, grc, hrc, hgc⟩ := h.rec_ (d := d - 1) (by omega)
   have hrc' : s.pop.acts[d - 1]? = some rc := by
    simp only [Sig.pop, dropLast_get h.len]
    rw [if_pos (by omega)]
    exact hrc
   have hgc' : (G.popA d gr.bl w).acts[d - 1]? = some grc := by rw [hacts _ (by omega)]; exact hgc
   have hIt : ∀ i, xs.length * T.es ≤ i → (G.popA d gr.bl w).I T.blk i = none := fun i hi => by
    simp only [Ghost.popA]
    rw [if_neg (fun hm => by
     obtain ⟨q, hq, hqe⟩ := List.getElem_of_mem hm
     have hq' : q < r.boxes.length := by rw [← hrr.blen]; exact hq
     obtain ⟨y, this, _⟩ := (hrr.box q _ T.blk (List.getElem?_eq_getElem hq') (by rw [List.getElem?_eq_getElem hq, hqe])).2.1
     rw [t2] at this
     injection this with this
     cases this)]
    exact t3 i hi
   obtain ⟨G2, b1, b2, b3, b4⟩ := addTok_free hp (T := T) hrc' hgc' hfree hTn ⟨t1, hIt, t4, t5, arr, ty, t6, t7⟩
   have hlen2 : (s.pop.addTok (d - 1) xs.length).acts.length = d := by simp [Sig.addTok, Sig.onRec, Sig.pop, h.len]
   refine ⟨G2, b3, hlen2, rfl, fun b i v e => by rw [b2]; exact hI b i v e, fun q gq hq e => ?_, ?_, ?_⟩
   ·have e' : (G.popA d gr.bl w).acts[q]? = some gq := by rw [hacts q hq]; exact e
    obtain ⟨gq', c1, c2, c3⟩ := (b4 (q + 1) 0).acts q gq (by omega) e'
    exact ⟨gq', c1, c2, c3 (by omega)⟩
   ·exact fun l r e => (b4 0 (l + 1)).loops l r (by omega) e
   ·have hga : G2.acts[d - 1]? = some { grc with tk := grc.tk ++ [T] } := by rw [b1, modify_get, if_pos rfl, hgc']; rfl
    have hnt : s.ntok (d - 1) = grc.tk.length := by rw [ntok_eq hrc, (h.rel.rec_ _ rc grc hrc hgc).tlen]
    rw [hnt]
    exact .tok T _ (by omega) hga (by show (grc.tk ++ [T])[grc.tk.length]? = _; rw [List.getElem?_append_right (Nat.le_refl _)]; simp) hes (hxc.mono (by rw [b2]; exact hI)) hn
  ·injection hf0 with hf0
   injection hf0 with hf1 hf2
   exact other (y := .slice .any es xs) rfl hf1.symm hf2.symm
 ·obtain ⟨y, hy, hf0⟩ := Option.map_eq_some_iff.1 hf0
  injection hf0 with hf1 hf2
  exact other hy hf1.symm hf2.symm
theorem finish_sound {st : St} {a : Act} (h : At P B0 w0 G k nl st.sig w) (hR : TmpsRel G k nl st.tmps a) (hll : st.sig.loops.length = nl) {fn : Func} {ars : List ARes} {own : Bool} (hc : mapO (compRes P) fn.results.toList = some ars) {kc nlc : Nat} (hkc : k ≤ kc + 1) {x : AV} {s' : Sig}
  (hf : finish ars own st = some (x, s')) : ∃ z G', (results fn a.tmps).run P w = .ok z w ∧ SRel P B0 w0 G' s' w ∧ s'.acts.length = k ∧ s'.loops = st.sig.loops ∧ (∀ b i v, G.I b i = some v → G'.I b i = some v) ∧
   (∀ d gr, d < k → G.acts[d]? = some gr → ∃ gr', G'.acts[d]? = some gr' ∧ RecLe gr gr' ∧ gr'.marks = gr.marks) ∧ (∀ l r : Nat, G.loops[l]? = some r → G'.loops[l]? = some r) ∧ Rel G' kc nlc x z := by
 obtain ⟨gr, hg, _⟩ := h.cur
 obtain ⟨hp, hI, hcell, hacts⟩ := pop_sound h hll hg
 have hkeep : ∀ d q, d < k → G.acts[d]? = some q → ∃ q', (G.popA k gr.bl w).acts[d]? = some q' ∧ RecLe q q' ∧ q'.marks = q.marks := fun d q hd e => ⟨q, by rw [hacts d hd]; exact e, .refl q, rfl⟩
 unfold finish at hf
 split at hf
 · -- one result, the right to append with it
  split at hf
  ·rename_i ar
   obtain ⟨x0, hx0, hf0⟩ := Option.bind_eq_some_iff.1 hf
   clear hf
   obtain ⟨rv, hrv⟩ : ∃ rv, fn.results.toList = [rv] := by
    obtain ⟨l1, _⟩ := mapO_spec hc
    match hh : fn.results.toList, l1 with
    | [rv], _ => exact ⟨rv, rfl⟩
   rw [hrv] at hc
   simp only [mapO] at hc
   split at hc
   ·rename_i ar' ars' e1 e2
    injection hc with hc
    injection hc with hc _
    subst hc
    obtain ⟨z, r1, r2⟩ := resultRaw_sound h hR e1 hx0
    have hrun : (results fn a.tmps).run P w = .ok z w := by
     have := results_run (P := P) (w := w) (fn := fn) (tmps := a.tmps) (vs := [z]) (by rw [hrv]; simp [r1])
     simpa using this
    obtain ⟨G2, q⟩ := ownResult_sound h hll hkc (nlc := nlc) r2 hf0
    exact ⟨z, G2, hrun, q⟩
   ·cases hc
  ·cases hf
 ·obtain ⟨l, hl, hf⟩ := Option.map_eq_some_iff.1 hf
  injection hf with hf1 hf2
  subst hf1 hf2
  obtain ⟨vs, v1, v2, v3⟩ := resultsOf_run h hR hll hg hkc (nlc := nlc) hc hl
  exact ⟨_, _, results_run v1, hp, by simp [Sig.pop, h.len], rfl, hI, hkeep, fun _ _ e => e, packed_rel v2 v3⟩
end
end Go.Ax

/-
  One operation of a region, calls with it.
-/
namespace Go.Ax
open Go.RowKit
def fenceOf : Option Nat → Fence
 | none => Fence.wide
 | some r => Fence.wide.inRound r
theorem fenceOf_fn (rd : Option Nat) (f : FuncId) : (fenceOf rd).fn f := by cases rd <;> exact trivial
theorem fenceOf_depth (rd : Option Nat) : (fenceOf rd).depth = none := by cases rd <;> rfl
theorem fenceOf_round (rd : Option Nat) : (fenceOf rd).round = rd := by cases rd <;> rfl
theorem fenceOf_calls (rd : Option Nat) {n : Nat} {P : Program} {f : FuncId} {args : Array Value} {w : World} {R : Ending → World → Prop} (h : Calls P f args w R) : CallsIn (fenceOf rd) n P f args w R := by
 have := (callsIn_wide (n := n)).2 h
 cases rd
 ·exact this
 ·exact this
theorem fenceOf_round_in (rd : Option Nat) {n : Nat} {P : Program} {l : Nat} {f : FuncId} {tmps : Array Value} {assign body : Code} {w : World} {R : Ending → World → Prop} (h : RoundIn Fence.wide n P l f tmps assign body w R) :
  RoundIn (fenceOf rd) n P l f tmps assign body w R := by
 cases rd
 ·exact h
 ·exact h
def HasBody (P : Program) (f : FuncId) : Prop := ∃ fn c, P.funcs[f]? = some fn ∧ fn.body = some c ∧ (fn.name == "runtime.NumGoroutine") = false
theorem HasBody.run {P : Program} {f : FuncId} (h : HasBody P f) (args : Array Value) (w : World) : (callFunc f args).run P w = .ok (.enter f args) w := by
 obtain ⟨fn, c, h1, h2, h3⟩ := h
 simp only [callFunc, Sem.run_bind, run_program, Result.andThen_ok, h1, h3, h2, Option.isNone_some, Bool.false_eq_true, if_false]
 rfl
section
variable {P : Program} {B0 : Nat} {w0 : World}
def CallTo (P : Program) (B0 : Nat) (w0 : World) (G : Ghost) (k nl : Nat) (s s' : Sig) (w' : World) (x : AV) (x' : Value) : Prop :=
 ∃ G', SRel P B0 w0 G' s' w' ∧ s'.acts.length = s.acts.length ∧ s'.loops.length = s.loops.length ∧ GLe (k + 1) s.loops.length G G' ∧ Rel G' k nl x x'
structure CallSound (P : Program) (B0 : Nat) (w0 : World) (call : CallF) : Prop where
 fn : ∀ (G : Ghost) (k nl : Nat) (s : Sig) (w : World) (f : FuncId) (args : List AV) (xs : Array Value) (res : AV) (s' : Sig), SRel P B0 w0 G s w → s.acts.length ≤ k + 1 → k ≤ s.acts.length → nl ≤ s.loops.length → xs.size = args.length →
  (∀ i (hi : i < args.length), Rel G k nl args[i] (xs.getD i Go.undef)) → call (.fn f) args s = some (res, s') →
  HasBody P f ∧ Calls P f xs w fun e w' => ∃ z, e = .returned z ∧ CallTo P B0 w0 G k nl s s' w' res z
 yield : ∀ (G : Ghost) (k nl : Nat) (s : Sig) (w : World) (l r : Nat) (args : List AV) (xs : Array Value) (res : AV) (s' : Sig), SRel P B0 w0 G s w → s.acts.length ≤ k + 1 → k ≤ s.acts.length → nl ≤ s.loops.length → l < nl → G.loops[l]? = some r → xs.size = args.length →
  (∀ i (hi : i < args.length), Rel G k nl args[i] (xs.getD i Go.undef)) → call (.yield l) args s = some (res, s') →
  ∃ rc : Loop, w.heap[r]? = some (.loop rc) ∧ xs.size = rc.params.size ∧ ∀ n, RoundIn Fence.wide n P r rc.fn ((rc.params.zip xs).foldl (fun tmps (t, a) => tmps.setIfInBounds t a) rc.tmps) rc.assign rc.body w
   fun e w' => ∃ z, e = .returned z ∧ CallTo P B0 w0 G k nl s s' w' res z
structure Fr (s s' : Sig) : Prop where
 alen : s'.acts.length = s.acts.length
 llen : s'.loops.length = s.loops.length
 ro : s'.ro = s.ro
 lro : s'.lro = s.lro
 acts : ∀ d, d < s.ro → s'.acts[d]? = s.acts[d]?
 loops : ∀ l, l < s.lro → s'.loops[l]? = s.loops[l]?
def RoOk (call : CallF) : Prop := ∀ t args s x s', s.ro ≤ s.acts.length → s.lro ≤ s.loops.length → call t args s = some (x, s') → Fr s s'
theorem SRel.of_eq {G : Ghost} {s s' : Sig} {w : World} (h : SRel P B0 w0 G s w) (ha : s'.acts = s.acts) (hl : s'.loops = s.loops) : SRel P B0 w0 G s' w := by
 obtain ⟨h1, h2, h3, h4, h5, h6, h7, h8, h9, h10⟩ := h
 exact ⟨h1, by rw [ha]; exact h2, by rw [hl]; exact h3, by rw [ha]; exact h4, by rw [hl]; exact h5, by rw [hl]; exact h6, h7, h8, h9, h10⟩
inductive TargetRel (G : Ghost) (nl : Nat) : Target → (Array Value → Sem Next) → Prop
 | fn (f : FuncId) : TargetRel G nl (.fn f) (callFunc f)
 | yield {l r : Nat} (hl : l < nl) (h : G.loops[l]? = some r) : TargetRel G nl (.yield l) (Instr.yield r)
variable {G : Ghost} {k nl : Nat} {w : World} {s s' : Sig}
theorem doCall_cases {call : CallF} (hro : RoOk call) {ro : Bool} {t : Target} {args : List AV} {x : AV} (h : doCall call ro s t args = some (x, s')) :
  ∃ s1 s2, s1.acts = s.acts ∧ s1.loops = s.loops ∧ call t args s1 = some (x, s2) ∧ s'.acts = s2.acts ∧ s'.loops = s2.loops := by
 unfold doCall at h
 split at h
 ·obtain ⟨p, hp, h⟩ := Option.map_eq_some_iff.1 h
  obtain ⟨y, s2⟩ := p
  injection h with h1 h2
  subst h1 h2
  obtain ⟨r1, r2, _, _, r3, r4⟩ := hro _ _ _ _ _ (Nat.le_refl _) (Nat.le_refl _) hp
  refine ⟨{ s with ro := s.acts.length, lro := s.loops.length }, s2, rfl, rfl, hp, ?_, ?_⟩
  ·refine List.ext_getElem r1.symm fun d h1 h2 => ?_
   have := r3 d h1
   simp only at this
   rw [List.getElem?_eq_getElem h1, List.getElem?_eq_getElem h2] at this
   injection this with this
   exact this.symm
  ·refine List.ext_getElem r2.symm fun d h1 h2 => ?_
   have := r4 d h1
   simp only at this
   rw [List.getElem?_eq_getElem h1, List.getElem?_eq_getElem h2] at this
   injection this with this
   exact this.symm
 ·exact ⟨s, s', rfl, rfl, h, rfl, rfl⟩
theorem CallTo.step {s1 s2 : Sig} {w' : World} {x : AV} {z : Value} (h : At P B0 w0 G k nl s w) (e1 : s1.acts = s.acts) (e2 : s1.loops = s.loops) (e3 : s'.acts = s2.acts) (e4 : s'.loops = s2.loops)
  (hc : CallTo P B0 w0 G k nl s1 s2 w' x z) : StepTo P B0 w0 G k nl s s' w' x z := by
 obtain ⟨G', h1, h2, h3, h4, h5⟩ := hc
 rw [e2] at h4 h3
 rw [e1] at h2
 have hs := h1.of_eq e3 e4
 exact ⟨G', h.to hs (h4.less (by omega) h.nle) (by rw [e3, h2]), h4, by rw [e4, h3], h5⟩
def PostTo (P : Program) (B0 : Nat) (w0 : World) (G : Ghost) (k nl : Nat) (s : Sig) (a : Act) (st' : St) (a' : Act) (w' : World) : Prop :=
 ∃ G', At P B0 w0 G' k nl st'.sig w' ∧ GLe (k + 1) s.loops.length G G' ∧ st'.sig.loops.length = s.loops.length ∧ TmpsRel G' k nl st'.tmps a' ∧ a'.tmps.size = a.tmps.size ∧ a'.defers = a.defers
theorem TmpsRel.put {ρ : Nat → AV} {a : Act} (h : TmpsRel G k nl ρ a) {dst : Option Nat} (hd : ∀ t, dst = some t → t < a.tmps.size) {x : AV} {v : Value} (hx : Rel G k nl x v) : TmpsRel G k nl (putT ρ dst x) (a.put dst v) := by
 cases dst with
 | none => exact h
 | some t =>
  intro u
  have ht := hd t rfl
  simp only [putT, Act.put, Ax.put]
  by_cases hu : u = t
  ·subst hu
   rw [if_pos rfl]
   have : (a.tmps.setIfInBounds u v).getD u Go.undef = v := by simp [Array.getD, ht]
   rw [this]
   exact hx
  ·rw [if_neg hu]
   have : (a.tmps.setIfInBounds t v).getD u Go.undef = a.tmps.getD u Go.undef := by
    by_cases hlt : u < a.tmps.size
    ·simp [Array.getD, hlt, Ne.symm hu]
    ·simp [Array.getD, hlt]
   rw [this]
   exact h u
theorem TmpsRel.mono {G' : Ghost} {ρ : Nat → AV} {a : Act} (h : TmpsRel G k nl ρ a) (hle : GLe k nl G G') : TmpsRel G' k nl ρ a := fun t => (h t).mono hle (Nat.le_refl _) (Nat.le_refl _)
theorem put_size (a : Act) (dst : Option Nat) (v : Value) : (a.put dst v).tmps.size = a.tmps.size := by
 cases dst with
 | none => rfl
 | some t => simp [Act.put]
theorem put_defers (a : Act) (dst : Option Nat) (v : Value) : (a.put dst v).defers = a.defers := by
 cases dst <;> rfl
theorem StepTo.post {a : Act} {ρ : Nat → AV} {dst : Option Nat} {w' : World} {x : AV} {v : Value} (h : At P B0 w0 G k nl s w) (hR : TmpsRel G k nl ρ a) (hd : ∀ t, dst = some t → t < a.tmps.size) (hs : StepTo P B0 w0 G k nl s s' w' x v) :
  PostTo P B0 w0 G k nl s a ⟨putT ρ dst x, s'⟩ (a.put dst v) w' := by
 obtain ⟨G', h1, h2, h3, h4⟩ := hs
 exact ⟨G', h1, h2, h3, (hR.mono (h2.less (by omega) h.nle)).put hd h4, put_size _ _ _, put_defers _ _ _⟩
theorem Rel.bool_iff {x : AV} {b : Bool} (h : Rel G k nl x (.bool b)) : x = .v (.bool b) := by
 cases h with
 | cl h => cases h with | v h => rfl
theorem wanted_eq {all : List Oper} {o : Oper} {g : Option (Nat × Bool)} {ρ : Nat → AV} {a : Act} (hg : compGuard all o.guard = some g) (hR : TmpsRel G k nl ρ a) : Region.wanted o (yielded all.toArray a.tmps) = wantedT ρ g := by
  unfold Region.wanted
  cases hgo : o.guard with
  | none =>
    rw [hgo] at hg
    simp only [compGuard, Option.some.injEq] at hg
    subst hg
    rfl
  | some p =>
    obtain ⟨j, b⟩ := p
    rw [hgo] at hg
    simp only [compGuard] at hg
    split at hg
    · rename_i t ht
      injection hg with hg
      subst hg
      simp only [wantedT, yielded]
      have e : (all.toArray[j]?).bind (·.dst) = some t := by simpa using ht
      rw [e]
      simp only [Option.bind_some]
      have hr := hR t
      by_cases hb : ∃ c, a.tmps.getD t Go.undef = .bool c
      · obtain ⟨c, hc⟩ := hb
        rw [hc] at hr
        rw [hr.bool_iff]
        have : a.tmps[t]? = some (.bool c) := by
          by_cases hlt : t < a.tmps.size
          · have : a.tmps.getD t Go.undef = a.tmps[t] := by simp [Array.getD, hlt]
            rw [this] at hc
            rw [Array.getElem?_eq_getElem hlt, hc]
          · have : a.tmps.getD t Go.undef = Go.undef := by simp [Array.getD, hlt]
            rw [this] at hc
            cases hc
        rw [this]
        simp [wantedV]
      · have h1 : (match a.tmps[t]? with | some (.bool b) => some b | _ => none) = (none : Option Bool) := by
          split
          · rename_i b hb'
            exact absurd ⟨b, by
              obtain ⟨hlt, hb''⟩ := Array.getElem?_eq_some_iff.1 hb'
              simp [Array.getD, hlt, hb'']⟩ hb
          · rfl
        have h2 : wantedV b (ρ t) = false := by
          unfold wantedV
          split
          · rename_i c hc
            rw [hc] at hr
            exact absurd ⟨c, hr.inv_v⟩ hb
          · rfl
        rw [h2]
        first
          | (rw [h1]; rfl)
          | (split
             · rename_i c hc
               exact absurd ⟨c, by
                 obtain ⟨hlt, hb''⟩ := Array.getElem?_eq_some_iff.1 hc
                 simp [Array.getD, hlt, hb'']⟩ hb
             · rfl)
    · cases hg
theorem targets_sound {call : CallF} (hcall : CallSound P B0 w0 call) (hro : RoOk call) {rd : Option Nat} {n : Nat} {ro : Bool} {t : Target} {tv : Array Value → Sem Next} {args : List AV} {xs : Array Value} {x : AV} (h : At P B0 w0 G k nl s w)
  (ht : TargetRel G nl t tv) (hl : xs.size = args.length) (hR : ∀ i (hi : i < args.length), Rel G k nl args[i] (xs.getD i Go.undef)) (hc : doCall call ro s t args = some (x, s'))
  {o : Oper} {a : Act} {K : Act → World → Prop} {Q : Exit → Act → World → Prop} (hK : ∀ z w', StepTo P B0 w0 G k nl s s' w' x z → K (a.put o.dst z) w') :
  o.uponIn (fenceOf rd) n P a K Q ((tv xs).run P w) := by
 obtain ⟨s1, s2, e1, e2, hc, e3, e4⟩ := doCall_cases hro hc
 have hs1 : SRel P B0 w0 G s1 w := h.rel.of_eq e1 e2
 have hdep : (fenceOf rd).depth.isSome = true → 1 ≤ n := by rw [fenceOf_depth]; intro h; cases h
 cases ht with
 | fn f =>
  obtain ⟨hb, hcs⟩ := hcall.fn G k nl s1 w f args xs x s2 hs1 (by rw [e1, h.len]; exact Nat.le_refl _) (by rw [e1, h.len]; exact Nat.le_succ _) (by rw [e2]; exact h.nle) hl hR hc
  rw [hb.run]
  simp only [Oper.uponIn_enter]
  refine ⟨hdep, CallsIn.mono (fenceOf_calls rd hcs) fun e w' he => ?_⟩
  obtain ⟨z, rfl, hz⟩ := he
  exact hK z w' (hz.step h e1 e2 e3 e4)
 | @yield l r hl' hr =>
  obtain ⟨rc, hrc, hsz, hround⟩ := hcall.yield G k nl s1 w l r args xs x s2 hs1 (by rw [e1, h.len]; exact Nat.le_refl _) (by rw [e1, h.len]; exact Nat.le_succ _) (by rw [e2]; exact h.nle) hl' hr hl hR hc
  rw [run_yield hrc hsz]
  simp only [Oper.uponIn_round]
  refine ⟨hdep, RoundIn.mono (fenceOf_round_in rd (hround (n - 1))) fun e w' he => ?_⟩
  obtain ⟨z, rfl, hz⟩ := he
  exact hK z w' (hz.step h e1 e2 e3 e4)
theorem ofValue_run {f : Value} {fn : Fn} {first caps : Array Value} (hf : f = .func fn first caps) (args : Array Value) (w : World) : (Deferred.ofValue f args).run P w = .ok { target := .fn fn caps, args := first ++ args } w := by
 subst hf
 rfl
theorem getD_append (xs ys : Array Value) (i : Nat) : (xs ++ ys).getD i Go.undef = if i < xs.size then xs.getD i Go.undef else ys.getD (i - xs.size) Go.undef := by
 by_cases h1 : i < xs.size
 ·rw [if_pos h1]
  have : i < (xs ++ ys).size := by simp; omega
  simp [Array.getD, h1, Array.getElem_append_left, this]
  omega
 ·rw [if_neg h1]
  by_cases h2 : i - xs.size < ys.size
  ·have : i < (xs ++ ys).size := by simp; omega
   have h3 : i < xs.size + ys.size := by omega
   simp [Array.getD, h2, h3, Array.getElem_append_right (Nat.le_of_not_lt h1)]
  ·have : ¬ i < xs.size + ys.size := by omega
   simp [Array.getD, h2, this]
theorem callv_sound {call : CallF} (hcall : CallSound P B0 w0 call) (hro : RoOk call) {rd : Option Nat} {n : Nat} {ro : Bool} {f : AV} {fv : Value} {args : List AV} {xs : Array Value} {x : AV} (h : At P B0 w0 G k nl s w)
  (hf : Rel G k nl f fv) (hl : xs.size = args.length) (hR : ∀ i (hi : i < args.length), Rel G k nl args[i] (xs.getD i Go.undef)) (hc : callvOp call ro s f args = some (x, s'))
  {o : Oper} {a : Act} {K : Act → World → Prop} {Q : Exit → Act → World → Prop} (hK : ∀ z w', StepTo P B0 w0 G k nl s s' w' x z → K (a.put o.dst z) w') :
  o.uponIn (fenceOf rd) n P a K Q ((do let d ← Deferred.ofValue fv xs; invoke d.target d.args : Sem Next).run P w) := by
 unfold callvOp at hc
 split at hc
 ·rename_i g first caps
  obtain ⟨a1, a2, rfl, l1, l2, r1, r2⟩ := hf.inv_fn
  have hrun : (do let d ← Deferred.ofValue (.func (.func g) a1 a2) xs; invoke d.target d.args : Sem Next).run P w = (callFunc g (a1 ++ xs ++ a2)).run P w := by
   simp only [Sem.run_bind, ofValue_run (P := P) rfl, Result.andThen_ok]
   rfl
  rw [hrun]
  refine targets_sound hcall hro h (.fn g) (by simp [l1, l2, hl]) (fun i hi => ?_) hc hK
  rw [getD_append, getD_append]
  simp only [List.length_append] at hi
  by_cases h1 : i < first.length
  ·rw [if_pos (by simp; omega), if_pos (by omega)]
   have e : (first ++ args ++ caps)[i] = first[i] := by
    rw [List.getElem_append_left (by simp; omega), List.getElem_append_left h1]
   rw [e]
   exact .cl (r1 i h1)
  ·by_cases h2 : i < first.length + args.length
   ·rw [if_pos (by simp; omega), if_neg (by omega)]
    have e : (first ++ args ++ caps)[i] = args[i - first.length]'(by omega) := by
     rw [List.getElem_append_left (by simp; omega), List.getElem_append_right (by omega)]
    rw [e, l1]
    exact hR _ _
   ·rw [if_neg (by simp; omega)]
    have e : (first ++ args ++ caps)[i] = caps[i - (first.length + args.length)]'(by omega) := by
     rw [List.getElem_append_right (by simp; omega)]
     simp
    rw [e]
    have : (a1 ++ xs).size = first.length + args.length := by simp [l1, hl]
    rw [this]
    exact r2 _ _
 ·rename_i l
  obtain ⟨r, rfl, hl', hr⟩ := hf.inv_yield
  have hrun : (do let d ← Deferred.ofValue (.func (.yield r) #[] #[]) xs; invoke d.target d.args : Sem Next).run P w = (Instr.yield r xs).run P w := by
   simp only [Sem.run_bind, ofValue_run (P := P) rfl, Result.andThen_ok]
   simp [invoke]
  rw [hrun]
  exact targets_sound hcall hro h (.yield hl' hr) hl hR hc hK
 ·cases hc
theorem callo_sound {call : CallF} (hcall : CallSound P B0 w0 call) (hro : RoOk call) {rd : Option Nat} {n : Nat} {f : FuncId} {args : List AV} {xs : Array Value} {x : AV} (h : At P B0 w0 G k nl s w)
  (hl : xs.size = args.length) (hR : ∀ i (hi : i < args.length), Rel G k nl args[i] (xs.getD i Go.undef)) (hc : calloOp call s f args = some (x, s'))
  {o : Oper} {a : Act} {K : Act → World → Prop} {Q : Exit → Act → World → Prop} (hK : ∀ z w', StepTo P B0 w0 G k nl s s' w' x z → K (a.put o.dst z) w') :
  o.uponIn (fenceOf rd) n P a K Q ((callFunc f xs).run P w) := by
 have hdep : (fenceOf rd).depth.isSome = true → 1 ≤ n := by rw [fenceOf_depth]; intro h; cases h
 have hp := push_sound h.rel
 have hlen := h.len
 have hple := G.pushA_le s.loops.length
 obtain ⟨y, s2, hcl⟩ : ∃ y s2, call (.fn f) args { s.push ⟨[], []⟩ with ro := s.acts.length, lro := s.loops.length } = some (y, s2) := by
  unfold calloOp at hc
  split at hc
  ·exact ⟨_, _, by assumption⟩
  ·exact ⟨_, _, by assumption⟩
  ·cases hc
 have hs1 : SRel P B0 w0 (G.pushA s.loops.length) { s.push ⟨[], []⟩ with ro := s.acts.length, lro := s.loops.length } w := hp.rel.of_eq rfl rfl
 have hal : ({ s.push ⟨[], []⟩ with ro := s.acts.length, lro := s.loops.length } : Sig).acts.length = k + 2 := by simp [Sig.push, hlen]
 obtain ⟨hb, hcs⟩ := hcall.fn (G.pushA s.loops.length) (k + 1) s.loops.length _ w f args xs y s2 hs1 (by rw [hal]; exact Nat.le_refl _) (by rw [hal]; exact Nat.le_succ _) (Nat.le_refl _) hl
  (fun i hi => (hR i hi).mono (hple _ _) (Nat.le_succ _) h.nle) hcl
 obtain ⟨f1, f2, _, _, f3, f4⟩ := hro _ _ _ _ _ (by rw [hal, hlen]; exact Nat.le_succ _) (Nat.le_refl _) hcl
 simp only at f1 f2 f3 f4
 have hloops : s2.loops = s.loops := by
  refine List.ext_getElem f2 fun d h1 h2 => ?_
  have := f4 d h2
  rw [List.getElem?_eq_getElem h1] at this
  have h3 : (s.push ⟨[], []⟩).loops[d]? = some s.loops[d] := List.getElem?_eq_getElem h2
  rw [h3] at this
  injection this
 have hlen2 : s2.acts.length = k + 2 := by rw [f1]; simp [Sig.push, hlen]
 have hpop : s2.pop.acts = s.acts := by
  refine List.ext_getElem? fun d => ?_
  simp only [Sig.pop, dropLast_get hlen2]
  by_cases hd : d < k + 1
  ·rw [if_pos hd, f3 d (by rw [hlen]; exact hd)]
   simp only [Sig.push]
   rw [List.getElem?_append_left (by rw [hlen]; exact hd)]
  ·rw [if_neg hd, List.getElem?_eq_none (by rw [hlen]; omega)]
 have hcur : s2.cur = k + 1 := by simp [Sig.cur, hlen2]
 have hscur : s.cur = k := h.cur_eq
 have hnt : ∀ q : Sig, q.acts = s2.acts → q.ntok k = s.ntok k := fun q hq => by
  have : s2.acts[k]? = s.acts[k]? := by
   rw [f3 k (by rw [hlen]; exact Nat.lt_succ_self k)]
   simp only [Sig.push]
   rw [List.getElem?_append_left (by rw [hlen]; exact Nat.lt_succ_self k)]
  simp only [Sig.ntok, hq, this]
 obtain ⟨s3, ho, ha3, hl3⟩ : ∃ s3, ownResult { s2 with ro := s.ro, lro := s.lro } y = some (x, s3) ∧ s3.acts = s'.acts ∧ s3.loops = s'.loops := by
  unfold calloOp at hc
  rw [hcl] at hc
  split at hc
  ·rename_i d g es ys s4 e
   injection e with e
   injection e with e1 e2
   subst e1 e2
   have hc1 : ({ s2 with ro := s.ro, lro := s.lro } : Sig).cur = k + 1 := hcur
   split at hc
   ·rename_i hcond
    obtain ⟨c1, c2, c3, c4⟩ := hcond
    injection hc with hc
    injection hc with hc1' hc2'
    rw [hlen] at c1 c3
    subst c1
    refine ⟨({ s2 with ro := s.ro, lro := s.lro } : Sig).pop.addTok k ys.length, ?_, ?_, ?_⟩
    ·simp only [ownResult]
     rw [if_pos ⟨hc1.symm, by omega, c3, c4⟩, ← hc1', hscur]
     have := hnt { s2 with ro := s.ro, lro := s.lro } rfl
     simp only [Nat.add_sub_cancel, this]
    ·rw [← hc2', hscur]
     have : ({ s2 with ro := s.ro, lro := s.lro } : Sig).pop.acts = s.acts := hpop
     simp only [Sig.addTok, Sig.onRec, this]
    ·rw [← hc2']; exact hloops
   ·rename_i hcond
    injection hc with hc
    injection hc with hc1' hc2'
    refine ⟨({ s2 with ro := s.ro, lro := s.lro } : Sig).pop, ?_, ?_, ?_⟩
    ·simp only [ownResult]
     rw [if_neg (fun q => hcond ⟨by rw [hlen, ← hc1]; exact q.1, by rw [hlen]; omega, by rw [hlen, ← hc1, ← q.1]; exact q.2.2.1, q.2.2.2⟩), hc1']
    ·rw [← hc2']; exact hpop
    ·rw [← hc2']; exact hloops
  ·rename_i y' s4 hno e
   injection e with e
   injection e with e1 e2
   subst e1 e2
   obtain ⟨v, hv, hc⟩ := Option.map_eq_some_iff.1 hc
   injection hc with hc1' hc2'
   subst hc1'
   refine ⟨({ s2 with ro := s.ro, lro := s.lro } : Sig).pop, ?_, ?_, ?_⟩
   ·have hlv : leaveVal { s2 with ro := s.ro, lro := s.lro } y = leaveVal s2 y := leaveVal_ro
    unfold ownResult
    split
    ·rename_i d g es ys
     exact absurd rfl (hno d g es ys)
    ·rw [hlv, hv]; rfl
   ·rw [← hc2']; exact hpop
   ·rw [← hc2']; exact hloops
  ·rename_i e; cases e
 rw [hb.run]
 simp only [Oper.uponIn_enter]
 refine ⟨hdep, CallsIn.mono (fenceOf_calls rd hcs) fun e w' he => ?_⟩
 obtain ⟨z, rfl, G', hsr, q1, q2, hle, hz⟩ := he
 refine hK z w' ?_
 have hgk : (G.pushA s.loops.length).acts[k + 1]? = some ⟨[], [], s.loops.length, [], fun _ => none⟩ := by
  have : G.acts.length = k + 1 := by rw [h.rel.len, hlen]
  simp [Ghost.pushA, this]
 obtain ⟨gr', hg', hrl, _⟩ := hle.acts (k + 1) _ (Nat.le_succ _) hgk
 have hAt : At P B0 w0 G' (k + 1) s.loops.length { s2 with ro := s.ro, lro := s.lro } w' := ⟨hsr.of_eq rfl rfl, hlen2, gr', hg', hrl.nl⟩
 obtain ⟨G2, b1, b2, b3, b4, b5, b6, b7⟩ := ownResult_sound hAt (by show s2.loops.length = _; rw [hloops]) (kc := k) (nlc := nl) (Nat.le_refl _) hz ho
 have hGle : GLe (k + 1) s.loops.length G G2 := by
  refine ⟨fun b i v e => b4 b i v (hle.I b i v e), fun d gr hd e => ?_, fun l r hl e => b6 l r (hle.loops l r hl e)⟩
  have hd' : d < k + 1 := by
   have := (List.getElem?_eq_some_iff.1 e).1
   rw [h.rel.len, hlen] at this; exact this
  have e' : (G.pushA s.loops.length).acts[d]? = some gr := get_old e
  obtain ⟨g1, c1, c2, c3⟩ := hle.acts d gr (by omega) e'
  obtain ⟨g2, c4, c5, c6⟩ := b5 d g1 (by omega) c1
  exact ⟨g2, c4, c2.trans c5, fun _ => c6.trans (c3 (by omega))⟩
 have hs' : SRel P B0 w0 G2 s' w' := b1.of_eq ha3.symm hl3.symm
 exact ⟨G2, h.to hs' (hGle.less (Nat.le_succ _) h.nle) (by rw [← ha3, b2, hlen]), hGle, by rw [← hl3, b3]; exact congrArg List.length hloops, b7⟩
theorem fcall_call {call : CallF} {ro : Bool} {m m' : Sig} {zs : List AV} {t : Target} {args : List AV} {v : AV} (h : fcallOp call ro m zs t args = some (v, m')) : doCall call ro m t args = some (v, m') := by
 unfold fcallOp at h
 split at h
 ·rename_i v' m2 e
  split at h
  ·injection h with h
   rw [e, h]
  ·cases h
 ·cases h
theorem compCall_cases {ro own mu : Bool} {fr : Option (List AV)} {c : Call} {aop : AOp} (h : compCall P ro own mu fr c = some aop) (hn : isCallA aop = true) : ∃ as f, mapO compOpd c.args.toList = some as ∧ c.callee = .value f ∧
  ((∃ g, f = .func g ∧ (aop = .call ro g as ∨ aop = .callo g as ∨ ∃ zs, aop = .fcall ro zs g as)) ∨ ∃ y, compOpd f = some y ∧ aop = .callv ro y as) := by
 unfold compCall at h
 split at h
 ·cases h
 rename_i as has
 split at h
 ·rename_i g hg
  injection h with h
  refine ⟨as, _, has, hg, .inl ⟨g, rfl, ?_⟩⟩
  split at h
  ·exact .inr (.inl h.symm)
  ·split at h
   ·exact .inr (.inr ⟨_, h.symm⟩)
   ·exact .inl h.symm
 ·rename_i f hf hcal
  obtain ⟨y, hy, rfl⟩ := Option.map_eq_some_iff.1 h
  exact ⟨as, _, has, hcal, .inr ⟨y, hy, rfl⟩⟩
 ·cases h
 ·split at h
  ·split at h
   ·split at h
    ·split at h
     ·injection h with h; subst h; split at hn <;> simp [isCallA] at hn
     ·cases h
    ·cases h
   ·cases h
  ·split at h <;> first | (cases h; done) | (injection h with h; subst h; simp [isCallA] at hn)
  ·split at h
   ·split at h <;> first | (cases h; done) | (injection h with h; subst h; simp [isCallA] at hn)
   ·cases h
  ·injection h with h; subst h; simp [isCallA] at hn
  ·injection h with h; subst h; simp [isCallA] at hn
  ·cases h
theorem compOp_call {md : Md} {op : Op} {aop : AOp} (h : compOp P md op = some aop) (hn : isCallA aop = true) : ∃ c, op = .call c ∧ compCall P md.ro md.own md.mu md.fr c = some aop := by
  cases op with
  | call c => exact ⟨c, rfl, h⟩
  | move x => obtain ⟨y, _, rfl⟩ := Option.map_eq_some_iff.1 h; simp [isCallA] at hn
  | assign x => obtain ⟨y, _, rfl⟩ := Option.map_eq_some_iff.1 h; simp [isCallA] at hn
  | alloc x =>
    simp only [compOp] at h
    split at h <;> (obtain ⟨y, _, rfl⟩ := Option.map_eq_some_iff.1 h; simp [isCallA] at hn)
  | nilCheck x => obtain ⟨y, _, rfl⟩ := Option.map_eq_some_iff.1 h; simp [isCallA] at hn
  | unOp _ _ x => obtain ⟨y, _, rfl⟩ := Option.map_eq_some_iff.1 h; simp [isCallA] at hn
  | extract x _ => obtain ⟨y, _, rfl⟩ := Option.map_eq_some_iff.1 h; simp [isCallA] at hn
  | binOp op t x y yt =>
    obtain ⟨_, _, _, _, hq⟩ := compBin_cases h
    rcases hq with rfl | ⟨_, _, _, _, _, _, _, rfl⟩ <;> simp [isCallA] at hn
  | convert src dst x =>
    simp only [compOp] at h
    obtain ⟨y, _, h⟩ := Option.bind_eq_some_iff.1 h
    unfold compConv at h
    repeat' split at h
    all_goals first | (cases h; done) | (injection h with h; subst h; simp [isCallA] at hn)
  | makeFunc fn a b =>
    cases fn <;> simp only [compOp] at h <;> first | (cases h; done) | skip
    split at h
    · injection h with h; subst h; simp [isCallA] at hn
    · cases h
  | _ =>
    simp only [compOp] at h
    first
      | (cases h; done)
      | (repeat' split at h
         all_goals first
          | (cases h; done)
          | (injection h with h; subst h; simp [isCallA] at hn; done)
          | (obtain ⟨_, _, rfl⟩ := Option.map_eq_some_iff.1 h; simp [isCallA] at hn))
noncomputable def stepA (call : CallF) (o : AOper) (st : St) : Option St :=
 if wantedT st.tmps o.guard then
  match opv call (evalT st.tmps) st.sig o.op with
  | some (x, m) => some ⟨putT st.tmps o.dst x, m⟩
  | none => none
 else some ⟨putT st.tmps o.dst AV.undef, st.sig⟩
theorem ops_cons (call : CallF) (o : AOper) (r : List AOper) (st : St) : ops call (o :: r) st = (stepA call o st).bind (ops call r) := by
 simp only [ops, stepA]
 split
 ·split
  ·rename_i h
   simp [h]
  ·rename_i h
   simp [h]
 ·rfl
theorem op_step {call : CallF} (hcall : CallSound P B0 w0 call) (hro : RoOk call) {rd : Option Nat} {n : Nat} {md : Md} {all : List Oper} {o : Oper} {ao : AOper} {st st' : St} {a : Act} (h : At P B0 w0 G k nl st.sig w) (hR : TmpsRel G k nl st.tmps a)
  (hg : compGuard all o.guard = some ao.guard) (hop : compOp P md o.op = some ao.op) (hdst : ao.dst = o.dst) (hd : ∀ t, ao.dst = some t → t < a.tmps.size) (hs : stepA call ao st = some st')
  {K : Act → World → Prop} {Q : Exit → Act → World → Prop} (hK : ∀ a' w', PostTo P B0 w0 G k nl st.sig a st' a' w' → K a' w') :
  if Region.wanted o (yielded all.toArray a.tmps) then o.wpIn (fenceOf rd) n P a w K Q else (∀ f, o.about P w a.eval = some f → (fenceOf rd).fn f) ∧ K (a.put o.dst Go.undef) w := by
 rw [wanted_eq hg hR]
 unfold stepA at hs
 cases hw : wantedT st.tmps ao.guard with
 | false =>
  rw [hw] at hs
  simp only [Bool.false_eq_true, if_false, Option.some.injEq] at hs ⊢
  subst hs
  refine ⟨fun f _ => fenceOf_fn rd f, hK _ _ ?_⟩
  rw [← hdst]
  exact (StepTo.same h .undef).post h hR hd
 | true =>
  rw [hw] at hs
  simp only [if_true] at hs ⊢
  split at hs
  case h_2 => cases hs
  rename_i x m hv
  injection hs with hs
  subst hs
  refine ⟨fun f _ => fenceOf_fn rd f, ?_⟩
  cases hcl : isCallA ao.op with
  | false =>
   have hnd : ∀ c, o.op ≠ .defer c := fun c e => by rw [e] at hop; simp [compOp] at hop
   rw [Oper.semAt_eq _ _ _ hnd]
   obtain ⟨w', hq⟩ := opv_sound h hR hop hcl hv
   rcases hq with ⟨z, h1, h2⟩ | ⟨h1, h2⟩
   ·rw [h1, Oper.uponIn_value]
    refine hK _ _ ?_
    rw [← hdst]
    exact h2.post h hR hd
   ·rw [h1, Oper.uponIn_skip]
    refine hK _ _ ?_
    rw [← hdst]
    exact h2.post h hR hd
  | true =>
   obtain ⟨c, hc, hcc⟩ := compOp_call hop hcl
   obtain ⟨as, f, has, hcal, hq⟩ := compCall_cases hcc hcl
   have hargs := args_rel has hR
   have hsem : o.semAt (fenceOf rd).round a.eval = (do let d ← Deferred.ofValue (a.eval f) (c.args.map a.eval); invoke d.target d.args) := by
    rw [Oper.semAt_eq _ _ _ (fun c' e => by rw [hc] at e; cases e)]
    unfold execOp
    rw [hc]
    simp only [resolve, hcal]
   rw [hsem]
   have hK' : ∀ z w', StepTo P B0 w0 G k nl st.sig m w' x z → K (a.put o.dst z) w' := fun z w' hst => by
    refine hK _ _ ?_
    rw [← hdst]
    exact hst.post h hR hd
   have hargs' : (c.args.map a.eval).size = (as.map (evalT st.tmps)).length ∧ ∀ i (hi : i < (as.map (evalT st.tmps)).length), Rel G k nl (as.map (evalT st.tmps))[i] ((c.args.map a.eval).getD i Go.undef) := by
    simpa using hargs
   rcases hq with ⟨g, rfl, e | e | ⟨zs, e⟩⟩ | ⟨y, hy, e⟩
   ·rw [e] at hv
    simp only [opv] at hv
    have hv' : callvOp call md.ro st.sig (.fn g [] []) (as.map (evalT st.tmps)) = some (x, m) := by
     simpa [callvOp] using hv
    exact callv_sound hcall hro h (.cl (.fn rfl rfl (fun i hi => absurd hi (Nat.not_lt_zero _)) (fun i hi => absurd hi (Nat.not_lt_zero _)))) hargs'.1 hargs'.2 hv' hK'
   ·rw [e] at hv
    simp only [opv] at hv
    have hrun : (do let d ← Deferred.ofValue (a.eval (.func g)) (c.args.map a.eval); invoke d.target d.args : Sem Next).run P w = (callFunc g (c.args.map a.eval)).run P w := by
     have e1 : a.eval (.func g) = .func (.func g) #[] #[] := rfl
     rw [e1]
     simp only [Sem.run_bind, ofValue_run (P := P) rfl, Result.andThen_ok]
     simp [invoke]
    rw [hrun]
    exact callo_sound hcall hro h hargs'.1 hargs'.2 hv hK'
   ·rw [e] at hv
    simp only [opv] at hv
    have hv' : callvOp call md.ro st.sig (.fn g [] []) (as.map (evalT st.tmps)) = some (x, m) := by
     simpa [callvOp] using fcall_call hv
    exact callv_sound hcall hro h (.cl (.fn rfl rfl (fun i hi => absurd hi (Nat.not_lt_zero _)) (fun i hi => absurd hi (Nat.not_lt_zero _)))) hargs'.1 hargs'.2 hv' hK'
   ·rw [e] at hv
    exact callv_sound hcall hro h (opd_rel hy hR) hargs'.1 hargs'.2 hv hK'
end
end Go.Ax

/-
  A region in its own order, and one whose order is drawn.
-/
namespace Go.Ax
open Go.RowKit
section
variable {P : Program} {B0 : Nat} {w0 : World} {G : Ghost} {k nl : Nat} {w : World} {s : Sig}
theorem PostTo.trans {a a1 a2 : Act} {st1 st2 : St} {w1 w2 : World} (h : PostTo P B0 w0 G k nl s a st1 a1 w1)
  (h' : ∀ G', At P B0 w0 G' k nl st1.sig w1 → TmpsRel G' k nl st1.tmps a1 → PostTo P B0 w0 G' k nl st1.sig a1 st2 a2 w2) : PostTo P B0 w0 G k nl s a st2 a2 w2 := by
 obtain ⟨G1, h1, h2, h3, h4, h5, h6⟩ := h
 obtain ⟨G2, g1, g2, g3, g4, g5, g6⟩ := h' G1 h1 h4
 rw [h3] at g2 g3
 exact ⟨G2, g1, h2.trans g2, g3, g4, g5.trans h5, g6.trans h6⟩
theorem ops_sound {call : CallF} (hcall : CallSound P B0 w0 call) (hro : RoOk call) {rd : Option Nat} {n : Nat} {all : List Oper} {md : Nat → Md} {Q : Exit → Act → World → Prop} : ∀ (l : List Oper) (i : Nat) (al : List AOper) (G : Ghost) (st st' : St) (a : Act) (w : World),
  compOpers P all md i l = some al → At P B0 w0 G k nl st.sig w → TmpsRel G k nl st.tmps a → (∀ o, o ∈ al → ∀ t, o.dst = some t → t < a.tmps.size) → ops call al st = some st' →
  (∀ a' w', PostTo P B0 w0 G k nl st.sig a st' a' w' → Q .normal a' w') → wpListIn (fenceOf rd) n P all.toArray Q l a w
 | [], i, al, G, st, st', a, w, hc, h, hR, hd, hs, hQ => by
  simp only [compOpers] at hc
  injection hc with hc
  subst hc
  simp only [ops] at hs
  injection hs with hs
  subst hs
  exact hQ a w ⟨G, h, .refl _ _ _, rfl, hR, rfl, rfl⟩
 | o :: r, i, al, G, st, st', a, w, hc, h, hR, hd, hs, hQ => by
  simp only [compOpers] at hc
  split at hc
  ·rename_i g op rest e1 e2 e3
   injection hc with hc
   subst hc
   rw [ops_cons] at hs
   obtain ⟨st1, hs1, hs2⟩ := Option.bind_eq_some_iff.1 hs
   unfold wpListIn
   refine op_step hcall hro h hR (ao := ⟨o.dst, g, op⟩) e1 e2 rfl (fun t ht => hd _ (by simp) t ht) hs1 fun a1 w1 hp => ?_
   obtain ⟨G1, g1, g2, g3, g4, g5, g6⟩ := hp
   refine ops_sound hcall hro r (i + 1) rest G1 st1 st' a1 w1 e3 g1 g4 (fun o' ho t ht => by rw [g5]; exact hd o' (by simp [ho]) t ht) hs2 fun a' w' hp' => hQ a' w' ?_
   obtain ⟨G2, q1, q2, q3, q4, q5, q6⟩ := hp'
   rw [g3] at q2 q3
   exact ⟨G2, q1, g2.trans q2, q3, q4, q5.trans g5, q6.trans g6⟩
  ·cases hc
def SameBoxes (m m' : Sig) : Prop := ∀ d b, m'.box d b = m.box d b
theorem SameBoxes.load {m m' : Sig} (h : SameBoxes m m') (agg : Bool) (n : Nat) (x : AV) : m'.load agg n x = m.load agg n x := by
 have : m'.row x = m.row x := by cases x <;> simp [Sig.row, h _ _]
 simp [Sig.load, this]
def agreeOn (l : List Nat) (ρ ρ' : Nat → AV) : Prop := ∀ t, t ∈ l → ρ t = ρ' t
theorem evalT_agree {x : AOpd} {ρ ρ' : Nat → AV} (h : agreeOn (readsOpd x) ρ ρ') : evalT ρ x = evalT ρ' x := by
 cases x with
 | tmp t => exact h t (by simp [readsOpd])
 | const c => rfl
theorem agree_left {l l' : List Nat} {ρ ρ' : Nat → AV} (h : agreeOn (l ++ l') ρ ρ') : agreeOn l ρ ρ' := fun t ht => h t (List.mem_append_left _ ht)
theorem agree_right {l l' : List Nat} {ρ ρ' : Nat → AV} (h : agreeOn (l ++ l') ρ ρ') : agreeOn l' ρ ρ' := fun t ht => h t (List.mem_append_right _ ht)
theorem agree_list {xs : List AOpd} {ρ ρ' : Nat → AV} (h : agreeOn (xs.flatMap readsOpd) ρ ρ') : xs.map (evalT ρ) = xs.map (evalT ρ') := by
 induction xs with
 | nil => rfl
 | cons x r ih =>
  simp only [List.flatMap_cons] at h
  simp only [List.map_cons]
  rw [evalT_agree (agree_left h), ih (agree_right h)]
theorem agree_opt {x : Option AOpd} {ρ ρ' : Nat → AV} (h : agreeOn (readsOpt x) ρ ρ') : evalOpt (evalT ρ) x = evalOpt (evalT ρ') x := by
 cases x with
 | none => rfl
 | some x => simp only [evalOpt]; rw [evalT_agree h]
theorem agree_cells {ps : List (Nat × Nat × AOpd)} {ρ ρ' : Nat → AV} (h : agreeOn (ps.flatMap fun p => readsOpd p.2.2) ρ ρ') (cs : List AV) : buildCells cs (evalT ρ) ps = buildCells cs (evalT ρ') ps := by
 induction ps generalizing cs with
 | nil => rfl
 | cons p r ih =>
  obtain ⟨o, z, x⟩ := p
  simp only [List.flatMap_cons] at h
  simp only [buildCells]
  rw [evalT_agree (agree_left h)]
  split
  ·exact ih (agree_right h) _
  ·rfl
theorem agree_rows {ps : List (Nat × AOpd)} {ρ ρ' : Nat → AV} (h : agreeOn (ps.flatMap fun p => readsOpd p.2) ρ ρ') (rs : List (List AV)) : buildRows rs (evalT ρ) ps = buildRows rs (evalT ρ') ps := by
 induction ps generalizing rs with
 | nil => rfl
 | cons p r ih =>
  obtain ⟨o, x⟩ := p
  simp only [List.flatMap_cons] at h
  simp only [buildRows]
  rw [evalT_agree (agree_left h)]
  split
  ·split
   ·exact ih (agree_right h) _
   ·rfl
  ·rfl
theorem opv_agree {call : CallF} {op : AOp} {ρ ρ' : Nat → AV} (h : agreeOn (readsOp op) ρ ρ') (m : Sig) : opv call (evalT ρ) m op = opv call (evalT ρ') m op := by
 cases op <;> simp only [readsOp] at h <;> simp only [opv] <;> first
  | rfl
  | (rw [evalT_agree h]; done)
  | (exact congrArg (buildFzOp m _ _) (evalT_agree (x := .tmp _) h))
  | (rw [evalT_agree (agree_left h), evalT_agree (agree_right h)]; done)
  | (rw [evalT_agree (agree_left (agree_left h)), evalT_agree (agree_right (agree_left h)), evalT_agree (agree_right h)]; done)
  | (rw [agree_cells h]; done)
  | (rw [agree_rows h]; done)
  | (rw [agree_list h]; done)
  | (rw [agree_list (agree_left h), agree_list (agree_right h)]; done)
  | (rw [evalT_agree (agree_left h), agree_list (agree_right h)]; done)
  | (rw [evalT_agree (agree_left (agree_left (agree_left h))), agree_opt (agree_right (agree_left (agree_left h))), agree_opt (agree_right (agree_left h)), agree_opt (agree_right h)]; done)
theorem opv_pure {call : CallF} {op : AOp} (h : classOf op = .pure) : ∃ f : (AOpd → AV) → Option AV, ∀ ρ m, opv call ρ m op = (f ρ).map (·, m) := by
 cases op <;> simp only [classOf] at h <;> first
  | (cases h; done)
  | (split at h <;> cases h; done)
  | exact ⟨_, fun ρ m => rfl⟩
  | skip
 case move x => exact ⟨fun ρ => some (ρ x), fun _ _ => rfl⟩
 case build zs ps => exact ⟨fun ρ => (buildCells zs ρ ps).map .agg, fun ρ m => by simp only [opv, Option.map_map]; rfl⟩
 case buildSlice es rs ps => exact ⟨fun ρ => (buildRows rs ρ ps).map (.slice .full es), fun ρ m => by simp only [opv, Option.map_map]; rfl⟩
 case eqv neg kd x y => exact ⟨fun ρ => (eqOp kd (ρ x) (ρ y)).map fun t => .v (.bool (if neg then !t else t)), fun ρ m => by simp only [opv, Option.map_map]; rfl⟩
 case mkFn f a b => exact ⟨fun ρ => if (a.map ρ).all AV.isClosedV then some (.fn f (a.map ρ) (b.map ρ)) else none, fun ρ m => by simp only [opv]; split <;> rfl⟩
 case lenArr n => exact ⟨fun _ => some (AV.int n), fun _ _ => rfl⟩
theorem box_toks {m : Sig} {d : Nat} {f : Rec → Rec} (hf : ∀ r, (f r).boxes = r.boxes) : SameBoxes m (m.onRec d f) := fun d' b => by
 simp only [Sig.box, Sig.onRec, modify_get]
 by_cases h : d = d'
 ·subst h
  rw [if_pos rfl]
  cases m.acts[d]? with
  | none => rfl
  | some r => simp [hf]
 ·rw [if_neg h]
theorem opv_soft {call : CallF} {op : AOp} (h : classOf op = .soft) {ρ : AOpd → AV} {m m' : Sig} {x : AV} (ho : opv call ρ m op = some (x, m')) : SameBoxes m m' := by
 cases op <;> simp only [classOf] at h <;> first | (cases h; done) | skip
 case call ro f as =>
  cases ro
  ·cases h
  ·simp only [opv, doCall, if_true] at ho
   obtain ⟨p, _, ho⟩ := Option.map_eq_some_iff.1 ho
   injection ho with _ ho
   subst ho
   exact fun _ _ => rfl
 case callv ro f as =>
  cases ro
  ·cases h
  ·simp only [opv, callvOp] at ho
   split at ho
   ·simp only [doCall, if_true] at ho
    obtain ⟨p, _, ho⟩ := Option.map_eq_some_iff.1 ho
    injection ho with _ ho
    subst ho
    exact fun _ _ => rfl
   ·simp only [doCall, if_true] at ho
    obtain ⟨p, _, ho⟩ := Option.map_eq_some_iff.1 ho
    injection ho with _ ho
    subst ho
    exact fun _ _ => rfl
   ·cases ho
 case callo f as =>
  simp only [opv, calloOp] at ho
  split at ho
  ·split at ho
   ·injection ho with ho
    injection ho with _ ho
    subst ho
    exact box_toks fun r => rfl
   ·injection ho with ho
    injection ho with _ ho
    subst ho
    exact fun _ _ => rfl
  ·obtain ⟨_, _, ho⟩ := Option.map_eq_some_iff.1 ho
   injection ho with _ ho
   subst ho
   exact fun _ _ => rfl
  ·cases ho
 case append es a b =>
  simp only [opv, appendOp] at ho
  split at ho
  ·split at ho
   ·injection ho with ho
    injection ho with _ ho
    subst ho
    exact fun _ _ => rfl
   ·split at ho
    ·split at ho
     ·injection ho with ho
      injection ho with _ ho
      subst ho
      exact box_toks fun r => rfl
     ·injection ho with ho
      injection ho with _ ho
      subst ho
      exact box_toks fun r => rfl
     ·split at ho
      ·injection ho with ho
       injection ho with _ ho
       subst ho
       exact box_toks fun r => rfl
      ·cases ho
     ·cases ho
    ·cases ho
  ·cases ho
theorem opv_load {call : CallF} {op : AOp} (h : classOf op = .load) {ρ : AOpd → AV} {m m' : Sig} (hs : SameBoxes m m') : ∃ r : Option AV, opv call ρ m op = r.map (·, m) ∧ opv call ρ m' op = r.map (·, m') := by
 cases op <;> simp only [classOf] at h <;> first | (cases h; done) | (split at h <;> cases h; done) | skip
 case load agg n x => exact ⟨m.load agg n (ρ x), rfl, by simp only [opv]; rw [hs.load]⟩
def Grows (m m' : Sig) : Prop := ∀ d b cs, m.box d b = some cs → ∃ cs', m'.box d b = some cs' ∧ (cs' = cs ∨ cs = [])
theorem Grows.newBox (m : Sig) (cs : List AV) : Grows m (m.newBox cs).2 := fun d b ds h => by
 refine ⟨ds, ?_, .inl rfl⟩
 simp only [Sig.box, Sig.newBox, Sig.addBox, Sig.onRec, modify_get] at h ⊢
 by_cases hd : m.cur = d
 ·subst hd
  rw [if_pos rfl]
  cases hr : m.acts[m.cur]? with
  | none => rw [hr] at h; cases h
  | some r =>
   rw [hr] at h
   exact get_old h
 ·rw [if_neg hd]
  exact h
theorem cur_setBox (m : Sig) (d b : Nat) (cs : List AV) : (m.setBox d b cs).cur = m.cur := by simp [Sig.cur, Sig.setBox, Sig.onRec]
theorem box_setBox (m : Sig) (d b : Nat) (cs : List AV) (d' b' : Nat) : (m.setBox d b cs).box d' b' = if d = d' ∧ b = b' then (m.box d' b').map fun _ => cs else m.box d' b' := by
 simp only [Sig.box, Sig.setBox, Sig.onRec, modify_get]
 by_cases hd : d = d'
 ·subst hd
  rw [if_pos rfl]
  cases m.acts[d]? with
  | none => simp
  | some r =>
   simp only [Option.map_some, Option.bind_some, List.getElem?_set]
   by_cases hb : b = b'
   ·subst hb
    simp only [true_and, if_pos]
    by_cases hlt : b < r.boxes.length
    ·simp [hlt]
    ·simp [hlt, List.getElem?_eq_none (Nat.le_of_not_lt hlt)]
   ·simp [hb]
 ·simp [hd]
theorem nbox_setBox (m : Sig) (d b : Nat) (cs : List AV) (d' : Nat) : (m.setBox d b cs).nbox d' = m.nbox d' := by
 simp only [Sig.nbox, Sig.setBox, Sig.onRec, modify_get]
 by_cases hd : d = d'
 ·subst hd
  rw [if_pos rfl]
  cases m.acts[d]? <;> simp
 ·simp [hd]
theorem setBox_comm (m : Sig) (d b : Nat) (cs : List AV) (b' : Nat) (cs' : List AV) (hb : b ≠ b') : (m.setBox d b cs).setBox d b' cs' = (m.setBox d b' cs').setBox d b cs := by
 simp only [Sig.setBox, Sig.onRec]
 congr 1
 refine List.ext_getElem? fun i => ?_
 simp only [modify_get]
 by_cases hd : d = i
 ·subst hd
  simp only [if_pos]
  cases m.acts[d]? with
  | none => rfl
  | some r =>
   simp only [Option.map_some, Option.some.injEq]
   congr 1
   exact List.set_comm _ _ hb
 ·simp [hd]
theorem slotOp_spec {m m' : Sig} {back : Nat} {zs : List AV} {v : AV} (h : slotOp m back zs = some (v, m')) :
  m.box m.cur (m.nbox m.cur - back) = some [] ∧ (zs.isEmpty = false ∧ m.noneTok m.cur = false) ∧ v = .ptr m.cur (m.nbox m.cur - back) 0 ∧ m' = m.setBox m.cur (m.nbox m.cur - back) zs := by
 unfold slotOp at h
 split at h
 ·rename_i hb
  split at h
  ·cases h
  ·rename_i hz
   injection h with h
   injection h with h1 h2
   refine ⟨hb, ⟨?_, by cases e : m.noneTok m.cur with | true => exact absurd (.inr e) hz | false => rfl⟩, h1.symm, h2.symm⟩
   cases he : zs.isEmpty with
   | false => rfl
   | true => exact absurd (.inl he) hz
 ·cases h
theorem slotOp_of {m : Sig} {back : Nat} {zs : List AV} (h1 : m.box m.cur (m.nbox m.cur - back) = some []) (h2 : zs.isEmpty = false ∧ m.noneTok m.cur = false) :
  slotOp m back zs = some (.ptr m.cur (m.nbox m.cur - back) 0, m.setBox m.cur (m.nbox m.cur - back) zs) := by
 unfold slotOp
 rw [h1]
 simp [h2.1, h2.2]
theorem ntok_setBox (m : Sig) (d b : Nat) (cs : List AV) (d' : Nat) : (m.setBox d b cs).noneTok d' = m.noneTok d' := by
 simp only [Sig.noneTok, Sig.setBox, Sig.onRec, List.getElem?_modify]
 by_cases h : d = d'
 ·subst h
  cases m.acts[d]? <;> simp
 ·simp [h]
theorem slot_swap {m m1 m2 : Sig} {b1 b2 : Nat} {z1 z2 : List AV} {v u : AV} (h1 : slotOp m b1 z1 = some (v, m1)) (h2 : slotOp m1 b2 z2 = some (u, m2)) :
  ∃ m1', slotOp m b2 z2 = some (u, m1') ∧ slotOp m1' b1 z1 = some (v, m2) := by
 obtain ⟨a1, a2, rfl, rfl⟩ := slotOp_spec h1
 obtain ⟨c1, c2, rfl, rfl⟩ := slotOp_spec h2
 simp only [cur_setBox, nbox_setBox] at c1 ⊢
 rw [cur_setBox, ntok_setBox] at c2
 have hne : m.nbox m.cur - b1 ≠ m.nbox m.cur - b2 := fun e => by
  rw [box_setBox, if_pos ⟨rfl, e⟩, ← e, a1] at c1
  simp only [Option.map_some, Option.some.injEq] at c1
  rw [c1] at a2
  exact absurd a2.1 (by decide)
 have c1' : m.box m.cur (m.nbox m.cur - b2) = some [] := by
  rw [box_setBox, if_neg (fun e => hne e.2)] at c1
  exact c1
 refine ⟨_, slotOp_of c1' c2, ?_⟩
 have := slotOp_of (m := m.setBox m.cur (m.nbox m.cur - b2) z2) (back := b1) (zs := z1) (by
  simp only [cur_setBox, nbox_setBox]
  rw [box_setBox, if_neg (fun e => hne e.2.symm)]
  exact a1) (by rw [cur_setBox, ntok_setBox]; exact a2)
 rw [this]
 simp only [cur_setBox, nbox_setBox]
 rw [setBox_comm _ _ _ _ _ _ (Ne.symm hne)]
theorem opv_fresh {call : CallF} {op : AOp} (h : classOf op = .fresh) {ρ : AOpd → AV} {m m' : Sig} {x : AV} (ho : opv call ρ m op = some (x, m')) : Grows m m' := by
 cases op <;> simp only [classOf] at h <;> first | (cases h; done) | (split at h <;> cases h; done) | skip
 case alloc zs =>
  simp only [opv] at ho
  split at ho
  ·cases ho
  simp only [Option.some.injEq] at ho
  have := Grows.newBox m zs
  rw [ho] at this
  exact this
 case box n y =>
  simp only [opv, boxOp] at ho
  split at ho
  ·injection ho with ho
   have := Grows.newBox m (ρ y).cells
   rw [ho] at this
   exact this
  ·cases ho
 case mkSlice es zs l c =>
  simp only [opv, mkSliceOp] at ho
  obtain ⟨_, _, ho⟩ := Option.bind_eq_some_iff.1 ho
  obtain ⟨_, _, ho⟩ := Option.map_eq_some_iff.1 ho
  split at ho
  ·injection ho with _ ho
   subst ho
   exact fun d b cs e => ⟨cs, e, .inl rfl⟩
  ·injection ho with _ ho
   subst ho
   exact Grows.newBox m _
theorem opv_slot {call : CallF} {op : AOp} {back : Nat} (h : classOf op = .slot back) : ∃ zs, ∀ ρ m, opv call ρ m op = slotOp m back zs := by
 cases op <;> simp only [classOf] at h <;> first | (cases h; done) | (split at h <;> cases h; done) | skip
 case slot back zs => injection h with h; subst h; exact ⟨zs, fun _ _ => rfl⟩
theorem opv_fill {call : CallF} {op : AOp} {back : Nat} (h : classOf op = .fill back) {ρ : AOpd → AV} {m m' : Sig} {v : AV} (ho : opv call ρ m op = some (v, m')) : ∃ cs, m' = m.setBox m.cur (m.nbox m.cur - back) cs := by
 cases op <;> simp only [classOf] at h <;> first | (cases h; done) | (split at h <;> cases h; done) | skip
 case fill b n x y =>
  injection h with h
  subst h
  simp only [opv] at ho
  obtain ⟨m1, hm, ho⟩ := Option.map_eq_some_iff.1 ho
  injection ho with _ ho
  subst ho
  unfold fillOp at hm
  split at hm
  ·split at hm
   ·rename_i hc
    unfold Sig.store at hm
    simp only [hc.1, if_true] at hm
    split at hm
    ·split at hm
     ·cases hm
     ·split at hm
      ·injection hm with hm
       rw [hc.2.1] at hm
       exact ⟨_, hm.symm⟩
      ·cases hm
    ·cases hm
   ·cases hm
  ·cases hm
theorem opv_loadr {call : CallF} {op : AOp} {res back : Nat} (h : classOf op = .loadr res) (hb : back ≤ res) {ρ : AOpd → AV} {m : Sig} (cs : List AV) :
  ∃ r : Option AV, opv call ρ m op = r.map (·, m) ∧ opv call ρ (m.setBox m.cur (m.nbox m.cur - back) cs) op = r.map (·, m.setBox m.cur (m.nbox m.cur - back) cs) := by
 cases op <;> simp only [classOf] at h <;> first | (cases h; done) | (split at h <;> cases h; done) | skip
 case loadr res' agg n x =>
  injection h with h
  subst h
  refine ⟨loadrOp m res' agg n (ρ x), rfl, ?_⟩
  simp only [opv]
  congr 1
  unfold loadrOp
  split
  ·rename_i d b off
   simp only [cur_setBox, nbox_setBox]
   split
   ·rfl
   ·rename_i hn
    simp only [Sig.load, Sig.row]
    rw [box_setBox, if_neg (fun e => hn ⟨e.1.symm, by have := e.2; omega⟩)]
  ·rename_i hx
   simp only [Sig.load]
   congr 1
   generalize ρ x = q at hx
   cases q <;> first | rfl | exact (hx _ _ _ rfl).elim
theorem part_grows {agg : Bool} {n : Nat} {cs cs' : List AV} {off : Nat} {v : AV} (hc : cs' = cs ∨ cs = []) (h : part agg n cs off = some v) : part agg n cs' off = some v := by
 rcases hc with rfl | rfl
 ·exact h
 ·unfold part at h ⊢
  split at h
  ·rename_i ha
   split at h
   ·rename_i hle
    simp only [List.length_nil] at hle
    have h0 : off = 0 := by omega
    have h1 : n = 0 := by omega
    subst h0 h1
    rw [if_pos ha, if_pos (by omega)]
    simpa using h
   ·cases h
  ·simp at h
theorem Grows.load {m m' : Sig} (h : Grows m m') {agg : Bool} {n : Nat} {x v : AV} (hl : m.load agg n x = some v) : m'.load agg n x = some v := by
  unfold Sig.load at hl ⊢
  obtain ⟨p, hp, hl⟩ := Option.bind_eq_some_iff.1 hl
  have : ∃ cs', m'.row x = some (cs', p.2) ∧ (cs' = p.1 ∨ p.1 = []) := by
    cases x <;> first
      | exact ⟨p.1, hp, .inl rfl⟩
      | (simp only [Sig.row] at hp ⊢
         obtain ⟨cs, hcs, rfl⟩ := Option.map_eq_some_iff.1 hp
         obtain ⟨cs', e1, e2⟩ := h _ _ _ hcs
         exact ⟨cs', by rw [e1]; rfl, e2⟩)
  obtain ⟨cs', e1, e2⟩ := this
  rw [e1]
  exact part_grows e2 hl
theorem opv_load_grows {call : CallF} {op : AOp} (h : classOf op = .load) {ρ : AOpd → AV} {m m1 : Sig} {v : AV} (ho : opv call ρ m op = some (v, m1)) : m1 = m ∧ ∀ m', Grows m m' → opv call ρ m' op = some (v, m') := by
 cases op <;> simp only [classOf] at h <;> first | (cases h; done) | (split at h <;> cases h; done) | skip
 case load agg n x =>
  simp only [opv] at ho ⊢
  obtain ⟨q1, q2⟩ := map_pair ho
  simp only at q1 q2
  exact ⟨by first | exact q2 | exact q2.symm, fun m' hg => by rw [hg.load q1]; rfl⟩
end
end Go.Ax
