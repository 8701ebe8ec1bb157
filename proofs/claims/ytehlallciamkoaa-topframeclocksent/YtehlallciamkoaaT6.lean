/-
  One operation of a region, calls with it.
-/
import Derived.Test.YtehlallciamkoaaT5
import Derived.RangeFuncOwn
import Derived.TacticsIn
import Derived.OrdersIn
namespace Go.Ax
open Go.RowKit
def fenceOf : Option Nat → Fence
 | none => Fence.wide
 | some r => Fence.wide.inRound r
theorem fenceOf_fn (rd : Option Nat) (f : FuncId) : (fenceOf rd).fn f := by cases rd <;> exact trivial
theorem fenceOf_depth (rd : Option Nat) : (fenceOf rd).depth = none := by cases rd <;> rfl
theorem fenceOf_round (rd : Option Nat) : (fenceOf rd).round = rd := by cases rd <;> rfl
theorem fenceOf_calls (rd : Option Nat) {n : Nat} {P : Program} {f : FuncId} {args : Array Value} {w : World} {R : Ending → World → Prop} (h : Calls P f args w R) : CallsIn (fenceOf rd) n P f args w R := by
 have := (callsIn_wide (n := n)).2 h
 cases rd
 ·exact this
 ·exact this
theorem fenceOf_round_in (rd : Option Nat) {n : Nat} {P : Program} {l : Nat} {f : FuncId} {tmps : Array Value} {assign body : Code} {w : World} {R : Ending → World → Prop} (h : RoundIn Fence.wide n P l f tmps assign body w R) :
  RoundIn (fenceOf rd) n P l f tmps assign body w R := by
 cases rd
 ·exact h
 ·exact h
def HasBody (P : Program) (f : FuncId) : Prop := ∃ fn c, P.funcs[f]? = some fn ∧ fn.body = some c ∧ (fn.name == "runtime.NumGoroutine") = false
theorem HasBody.run {P : Program} {f : FuncId} (h : HasBody P f) (args : Array Value) (w : World) : (callFunc f args).run P w = .ok (.enter f args) w := by
 obtain ⟨fn, c, h1, h2, h3⟩ := h
 simp only [callFunc, Sem.run_bind, run_program, Result.andThen_ok, h1, h3, h2, Option.isNone_some, Bool.false_eq_true, if_false]
 rfl
section
variable {P : Program} {B0 : Nat} {w0 : World}
def CallTo (P : Program) (B0 : Nat) (w0 : World) (G : Ghost) (k nl : Nat) (s s' : Sig) (w' : World) (x : AV) (x' : Value) : Prop :=
 ∃ G', SRel P B0 w0 G' s' w' ∧ s'.acts.length = s.acts.length ∧ s'.loops.length = s.loops.length ∧ GLe (k + 1) s.loops.length G G' ∧ Rel G' k nl x x'
structure CallSound (P : Program) (B0 : Nat) (w0 : World) (call : CallF) : Prop where
 fn : ∀ (G : Ghost) (k nl : Nat) (s : Sig) (w : World) (f : FuncId) (args : List AV) (xs : Array Value) (res : AV) (s' : Sig), SRel P B0 w0 G s w → s.acts.length ≤ k + 1 → k ≤ s.acts.length → nl ≤ s.loops.length → xs.size = args.length →
  (∀ i (hi : i < args.length), Rel G k nl args[i] (xs.getD i Go.undef)) → call (.fn f) args s = some (res, s') →
  HasBody P f ∧ Calls P f xs w fun e w' => ∃ z, e = .returned z ∧ CallTo P B0 w0 G k nl s s' w' res z
 yield : ∀ (G : Ghost) (k nl : Nat) (s : Sig) (w : World) (l r : Nat) (args : List AV) (xs : Array Value) (res : AV) (s' : Sig), SRel P B0 w0 G s w → s.acts.length ≤ k + 1 → k ≤ s.acts.length → nl ≤ s.loops.length → l < nl → G.loops[l]? = some r → xs.size = args.length →
  (∀ i (hi : i < args.length), Rel G k nl args[i] (xs.getD i Go.undef)) → call (.yield l) args s = some (res, s') →
  ∃ rc : Loop, w.heap[r]? = some (.loop rc) ∧ xs.size = rc.params.size ∧ ∀ n, RoundIn Fence.wide n P r rc.fn ((rc.params.zip xs).foldl (fun tmps (t, a) => tmps.setIfInBounds t a) rc.tmps) rc.assign rc.body w
   fun e w' => ∃ z, e = .returned z ∧ CallTo P B0 w0 G k nl s s' w' res z
def RelN (I : IMap) (r : AV) (z : Value) : Prop := RelC I r z ∨ ∃ (vs : List AV) (arr : Array Value), r = .tuple vs ∧ z = .tuple arr ∧ arr.size = vs.length ∧ ∀ i (hi : i < vs.length), RelC I vs[i] (arr.getD i Go.undef)
theorem RelN.rel {G : Ghost} {k nl : Nat} {r : AV} {z : Value} (h : RelN G.I r z) : Rel G k nl r z := by
 rcases h with h | ⟨vs, arr, rfl, rfl, hl, hR⟩
 ·exact .cl h
 ·exact .tuple hl fun i hi => .cl (hR i hi)
structure HereSound (P : Program) (B0 : Nat) (w0 : World) (call : CallF) : Prop where
 inl : ∀ (G : Ghost) (k nl : Nat) (s : Sig) (w : World) (f : FuncId) (args : List AV) (xs : Array Value) (res : AV) (s' : Sig), At P B0 w0 G k nl s w → s.loops.length = nl → xs.size = args.length →
  (∀ i (hi : i < args.length), Rel G k nl args[i] (xs.getD i Go.undef)) → call (.inl f) args s = some (res, s') →
  HasBody P f ∧ Calls P f xs w fun e w' => ∃ z, e = .returned z ∧ CallTo P B0 w0 G k nl s s' w' res z
 nat : ∀ (I : IMap) (s : Sig) (w : World) (f : FuncId) (args : List AV) (xs : Array Value) (res : AV) (s' : Sig), xs.size = args.length →
  (∀ i (hi : i < args.length), ∀ c, args[i].close = some c → RelC I c (xs.getD i Go.undef)) → call (.nat f) args s = some (res, s') →
  s' = s ∧ ∃ z, (callFunc f xs).run P w = .ok (.value z) w ∧ RelN I res z
structure Fr (s s' : Sig) : Prop where
 alen : s'.acts.length = s.acts.length
 llen : s'.loops.length = s.loops.length
 ro : s'.ro = s.ro
 lro : s'.lro = s.lro
 acts : ∀ d, d < s.ro → s'.acts[d]? = s.acts[d]?
 loops : ∀ l, l < s.lro → s'.loops[l]? = s.loops[l]?
def RoOk (call : CallF) : Prop := ∀ t args s x s', s.ro ≤ s.acts.length → s.lro ≤ s.loops.length → call t args s = some (x, s') → Fr s s'
theorem SRel.of_eq {G : Ghost} {s s' : Sig} {w : World} (h : SRel P B0 w0 G s w) (ha : s'.acts = s.acts) (hl : s'.loops = s.loops) : SRel P B0 w0 G s' w := by
 obtain ⟨h1, h2, h3, h4, h5, h6, h7, h8, h9, h10⟩ := h
 exact ⟨h1, by rw [ha]; exact h2, by rw [hl]; exact h3, by rw [ha]; exact h4, by rw [hl]; exact h5, by rw [hl]; exact h6, h7, h8, h9, h10⟩
inductive TargetRel (G : Ghost) (nl : Nat) : Target → (Array Value → Sem Next) → Prop
 | fn (f : FuncId) : TargetRel G nl (.fn f) (callFunc f)
 | yield {l r : Nat} (hl : l < nl) (h : G.loops[l]? = some r) : TargetRel G nl (.yield l) (Instr.yield r)
variable {G : Ghost} {k nl : Nat} {w : World} {s s' : Sig}
theorem doCall_cases {call : CallF} (hro : RoOk call) {ro : Bool} {t : Target} {args : List AV} {x : AV} (h : doCall call ro s t args = some (x, s')) :
  ∃ s1 s2, s1.acts = s.acts ∧ s1.loops = s.loops ∧ call t args s1 = some (x, s2) ∧ s'.acts = s2.acts ∧ s'.loops = s2.loops := by
 unfold doCall at h
 split at h
 ·obtain ⟨p, hp, h⟩ := Option.map_eq_some_iff.1 h
  obtain ⟨y, s2⟩ := p
  injection h with h1 h2
  subst h1 h2
  obtain ⟨r1, r2, _, _, r3, r4⟩ := hro _ _ _ _ _ (Nat.le_refl _) (Nat.le_refl _) hp
  refine ⟨{ s with ro := s.acts.length, lro := s.loops.length }, s2, rfl, rfl, hp, ?_, ?_⟩
  ·refine List.ext_getElem r1.symm fun d h1 h2 => ?_
   have := r3 d h1
   simp only at this
   rw [List.getElem?_eq_getElem h1, List.getElem?_eq_getElem h2] at this
   injection this with this
   exact this.symm
  ·refine List.ext_getElem r2.symm fun d h1 h2 => ?_
   have := r4 d h1
   simp only at this
   rw [List.getElem?_eq_getElem h1, List.getElem?_eq_getElem h2] at this
   injection this with this
   exact this.symm
 ·exact ⟨s, s', rfl, rfl, h, rfl, rfl⟩
theorem CallTo.step {s1 s2 : Sig} {w' : World} {x : AV} {z : Value} (h : At P B0 w0 G k nl s w) (e1 : s1.acts = s.acts) (e2 : s1.loops = s.loops) (e3 : s'.acts = s2.acts) (e4 : s'.loops = s2.loops)
  (hc : CallTo P B0 w0 G k nl s1 s2 w' x z) : StepTo P B0 w0 G k nl s s' w' x z := by
 obtain ⟨G', h1, h2, h3, h4, h5⟩ := hc
 rw [e2] at h4 h3
 rw [e1] at h2
 have hs := h1.of_eq e3 e4
 exact ⟨G', h.to hs (h4.less (by omega) h.nle) (by rw [e3, h2]), h4, by rw [e4, h3], h5⟩
def PostTo (P : Program) (B0 : Nat) (w0 : World) (G : Ghost) (k nl : Nat) (s : Sig) (a : Act) (st' : St) (a' : Act) (w' : World) : Prop :=
 ∃ G', At P B0 w0 G' k nl st'.sig w' ∧ GLe (k + 1) s.loops.length G G' ∧ st'.sig.loops.length = s.loops.length ∧ TmpsRel G' k nl st'.tmps a' ∧ a'.tmps.size = a.tmps.size ∧ a'.defers = a.defers
theorem TmpsRel.put {ρ : Nat → AV} {a : Act} (h : TmpsRel G k nl ρ a) {dst : Option Nat} (hd : ∀ t, dst = some t → t < a.tmps.size) {x : AV} {v : Value} (hx : Rel G k nl x v) : TmpsRel G k nl (putT ρ dst x) (a.put dst v) := by
 cases dst with
 | none => exact h
 | some t =>
  intro u
  have ht := hd t rfl
  simp only [putT, Act.put, Ax.put]
  by_cases hu : u = t
  ·subst hu
   rw [if_pos rfl]
   have : (a.tmps.setIfInBounds u v).getD u Go.undef = v := by simp [Array.getD, ht]
   rw [this]
   exact hx
  ·rw [if_neg hu]
   have : (a.tmps.setIfInBounds t v).getD u Go.undef = a.tmps.getD u Go.undef := by
    by_cases hlt : u < a.tmps.size
    ·simp [Array.getD, hlt, Ne.symm hu]
    ·simp [Array.getD, hlt]
   rw [this]
   exact h u
theorem TmpsRel.mono {G' : Ghost} {ρ : Nat → AV} {a : Act} (h : TmpsRel G k nl ρ a) (hle : GLe k nl G G') : TmpsRel G' k nl ρ a := fun t => (h t).mono hle (Nat.le_refl _) (Nat.le_refl _)
theorem put_size (a : Act) (dst : Option Nat) (v : Value) : (a.put dst v).tmps.size = a.tmps.size := by
 cases dst with
 | none => rfl
 | some t => simp [Act.put]
theorem put_defers (a : Act) (dst : Option Nat) (v : Value) : (a.put dst v).defers = a.defers := by
 cases dst <;> rfl
theorem StepTo.post {a : Act} {ρ : Nat → AV} {dst : Option Nat} {w' : World} {x : AV} {v : Value} (h : At P B0 w0 G k nl s w) (hR : TmpsRel G k nl ρ a) (hd : ∀ t, dst = some t → t < a.tmps.size) (hs : StepTo P B0 w0 G k nl s s' w' x v) :
  PostTo P B0 w0 G k nl s a ⟨putT ρ dst x, s'⟩ (a.put dst v) w' := by
 obtain ⟨G', h1, h2, h3, h4⟩ := hs
 exact ⟨G', h1, h2, h3, (hR.mono (h2.less (by omega) h.nle)).put hd h4, put_size _ _ _, put_defers _ _ _⟩
theorem Rel.bool_iff {x : AV} {b : Bool} (h : Rel G k nl x (.bool b)) : x = .v (.bool b) := by
 cases h with
 | cl h => cases h with | v h => rfl
theorem wanted_eq {all : List Oper} {o : Oper} {g : Option (Nat × Bool)} {ρ : Nat → AV} {a : Act} (hg : compGuard all o.guard = some g) (hR : TmpsRel G k nl ρ a) : Region.wanted o (yielded all.toArray a.tmps) = wantedT ρ g := by
  unfold Region.wanted
  cases hgo : o.guard with
  | none =>
    rw [hgo] at hg
    simp only [compGuard, Option.some.injEq] at hg
    subst hg
    rfl
  | some p =>
    obtain ⟨j, b⟩ := p
    rw [hgo] at hg
    simp only [compGuard] at hg
    split at hg
    · rename_i t ht
      injection hg with hg
      subst hg
      simp only [wantedT, yielded]
      have e : (all.toArray[j]?).bind (·.dst) = some t := by simpa using ht
      rw [e]
      simp only [Option.bind_some]
      have hr := hR t
      by_cases hb : ∃ c, a.tmps.getD t Go.undef = .bool c
      · obtain ⟨c, hc⟩ := hb
        rw [hc] at hr
        rw [hr.bool_iff]
        have : a.tmps[t]? = some (.bool c) := by
          by_cases hlt : t < a.tmps.size
          · have : a.tmps.getD t Go.undef = a.tmps[t] := by simp [Array.getD, hlt]
            rw [this] at hc
            rw [Array.getElem?_eq_getElem hlt, hc]
          · have : a.tmps.getD t Go.undef = Go.undef := by simp [Array.getD, hlt]
            rw [this] at hc
            cases hc
        rw [this]
        simp [wantedV]
      · have h1 : (match a.tmps[t]? with | some (.bool b) => some b | _ => none) = (none : Option Bool) := by
          split
          · rename_i b hb'
            exact absurd ⟨b, by
              obtain ⟨hlt, hb''⟩ := Array.getElem?_eq_some_iff.1 hb'
              simp [Array.getD, hlt, hb'']⟩ hb
          · rfl
        have h2 : wantedV b (ρ t) = false := by
          unfold wantedV
          split
          · rename_i c hc
            rw [hc] at hr
            exact absurd ⟨c, hr.inv_v⟩ hb
          · rfl
        rw [h2]
        first
          | (rw [h1]; rfl)
          | (split
             · rename_i c hc
               exact absurd ⟨c, by
                 obtain ⟨hlt, hb''⟩ := Array.getElem?_eq_some_iff.1 hc
                 simp [Array.getD, hlt, hb'']⟩ hb
             · rfl)
    · cases hg
theorem targets_sound {call : CallF} (hcall : CallSound P B0 w0 call) (hro : RoOk call) {rd : Option Nat} {n : Nat} {ro : Bool} {t : Target} {tv : Array Value → Sem Next} {args : List AV} {xs : Array Value} {x : AV} (h : At P B0 w0 G k nl s w)
  (ht : TargetRel G nl t tv) (hl : xs.size = args.length) (hR : ∀ i (hi : i < args.length), Rel G k nl args[i] (xs.getD i Go.undef)) (hc : doCall call ro s t args = some (x, s'))
  {o : Oper} {a : Act} {K : Act → World → Prop} {Q : Exit → Act → World → Prop} (hK : ∀ z w', StepTo P B0 w0 G k nl s s' w' x z → K (a.put o.dst z) w') :
  o.uponIn (fenceOf rd) n P a K Q ((tv xs).run P w) := by
 obtain ⟨s1, s2, e1, e2, hc, e3, e4⟩ := doCall_cases hro hc
 have hs1 : SRel P B0 w0 G s1 w := h.rel.of_eq e1 e2
 have hdep : (fenceOf rd).depth.isSome = true → 1 ≤ n := by rw [fenceOf_depth]; intro h; cases h
 cases ht with
 | fn f =>
  obtain ⟨hb, hcs⟩ := hcall.fn G k nl s1 w f args xs x s2 hs1 (by rw [e1, h.len]; exact Nat.le_refl _) (by rw [e1, h.len]; exact Nat.le_succ _) (by rw [e2]; exact h.nle) hl hR hc
  rw [hb.run]
  simp only [Oper.uponIn_enter]
  refine ⟨hdep, CallsIn.mono (fenceOf_calls rd hcs) fun e w' he => ?_⟩
  obtain ⟨z, rfl, hz⟩ := he
  exact hK z w' (hz.step h e1 e2 e3 e4)
 | @yield l r hl' hr =>
  obtain ⟨rc, hrc, hsz, hround⟩ := hcall.yield G k nl s1 w l r args xs x s2 hs1 (by rw [e1, h.len]; exact Nat.le_refl _) (by rw [e1, h.len]; exact Nat.le_succ _) (by rw [e2]; exact h.nle) hl' hr hl hR hc
  rw [run_yield hrc hsz]
  simp only [Oper.uponIn_round]
  refine ⟨hdep, RoundIn.mono (fenceOf_round_in rd (hround (n - 1))) fun e w' he => ?_⟩
  obtain ⟨z, rfl, hz⟩ := he
  exact hK z w' (hz.step h e1 e2 e3 e4)
theorem ofValue_run {f : Value} {fn : Fn} {first caps : Array Value} (hf : f = .func fn first caps) (args : Array Value) (w : World) : (Deferred.ofValue f args).run P w = .ok { target := .fn fn caps, args := first ++ args } w := by
 subst hf
 rfl
theorem getD_append (xs ys : Array Value) (i : Nat) : (xs ++ ys).getD i Go.undef = if i < xs.size then xs.getD i Go.undef else ys.getD (i - xs.size) Go.undef := by
 by_cases h1 : i < xs.size
 ·rw [if_pos h1]
  have : i < (xs ++ ys).size := by simp; omega
  simp [Array.getD, h1, Array.getElem_append_left, this]
  omega
 ·rw [if_neg h1]
  by_cases h2 : i - xs.size < ys.size
  ·have : i < (xs ++ ys).size := by simp; omega
   have h3 : i < xs.size + ys.size := by omega
   simp [Array.getD, h2, h3, Array.getElem_append_right (Nat.le_of_not_lt h1)]
  ·have : ¬ i < xs.size + ys.size := by omega
   simp [Array.getD, h2, this]
theorem callv_sound {call : CallF} (hcall : CallSound P B0 w0 call) (hro : RoOk call) {rd : Option Nat} {n : Nat} {ro : Bool} {f : AV} {fv : Value} {args : List AV} {xs : Array Value} {x : AV} (h : At P B0 w0 G k nl s w)
  (hf : Rel G k nl f fv) (hl : xs.size = args.length) (hR : ∀ i (hi : i < args.length), Rel G k nl args[i] (xs.getD i Go.undef)) (hc : callvOp call ro s f args = some (x, s'))
  {o : Oper} {a : Act} {K : Act → World → Prop} {Q : Exit → Act → World → Prop} (hK : ∀ z w', StepTo P B0 w0 G k nl s s' w' x z → K (a.put o.dst z) w') :
  o.uponIn (fenceOf rd) n P a K Q ((do let d ← Deferred.ofValue fv xs; invoke d.target d.args : Sem Next).run P w) := by
 unfold callvOp at hc
 split at hc
 ·rename_i g first caps
  obtain ⟨a1, a2, rfl, l1, l2, r1, r2⟩ := hf.inv_fn
  have hrun : (do let d ← Deferred.ofValue (.func (.func g) a1 a2) xs; invoke d.target d.args : Sem Next).run P w = (callFunc g (a1 ++ xs ++ a2)).run P w := by
   simp only [Sem.run_bind, ofValue_run (P := P) rfl, Result.andThen_ok]
   rfl
  rw [hrun]
  refine targets_sound hcall hro h (.fn g) (by simp [l1, l2, hl]) (fun i hi => ?_) hc hK
  rw [getD_append, getD_append]
  simp only [List.length_append] at hi
  by_cases h1 : i < first.length
  ·rw [if_pos (by simp; omega), if_pos (by omega)]
   have e : (first ++ args ++ caps)[i] = first[i] := by
    rw [List.getElem_append_left (by simp; omega), List.getElem_append_left h1]
   rw [e]
   exact .cl (r1 i h1)
  ·by_cases h2 : i < first.length + args.length
   ·rw [if_pos (by simp; omega), if_neg (by omega)]
    have e : (first ++ args ++ caps)[i] = args[i - first.length]'(by omega) := by
     rw [List.getElem_append_left (by simp; omega), List.getElem_append_right (by omega)]
    rw [e, l1]
    exact hR _ _
   ·rw [if_neg (by simp; omega)]
    have e : (first ++ args ++ caps)[i] = caps[i - (first.length + args.length)]'(by omega) := by
     rw [List.getElem_append_right (by simp; omega)]
     simp
    rw [e]
    have : (a1 ++ xs).size = first.length + args.length := by simp [l1, hl]
    rw [this]
    exact r2 _ _
 ·rename_i l
  obtain ⟨r, rfl, hl', hr⟩ := hf.inv_yield
  have hrun : (do let d ← Deferred.ofValue (.func (.yield r) #[] #[]) xs; invoke d.target d.args : Sem Next).run P w = (Instr.yield r xs).run P w := by
   simp only [Sem.run_bind, ofValue_run (P := P) rfl, Result.andThen_ok]
   simp [invoke]
  rw [hrun]
  exact targets_sound hcall hro h (.yield hl' hr) hl hR hc hK
 ·cases hc
theorem calli_sound {call : CallF} (hhere : HereSound P B0 w0 call) {rd : Option Nat} {n : Nat} {f : FuncId} {args : List AV} {xs : Array Value} {x : AV} (h : At P B0 w0 G k nl s w) (hll : s.loops.length = nl)
  (hl : xs.size = args.length) (hR : ∀ i (hi : i < args.length), Rel G k nl args[i] (xs.getD i Go.undef)) (hc : doCall call false s (.inl f) args = some (x, s'))
  {o : Oper} {a : Act} {K : Act → World → Prop} {Q : Exit → Act → World → Prop} (hK : ∀ z w', StepTo P B0 w0 G k nl s s' w' x z → K (a.put o.dst z) w') :
  o.uponIn (fenceOf rd) n P a K Q ((callFunc f xs).run P w) := by
 have hdep : (fenceOf rd).depth.isSome = true → 1 ≤ n := by rw [fenceOf_depth]; intro h; cases h
 simp only [doCall, Bool.false_eq_true, if_false] at hc
 obtain ⟨hb, hcs⟩ := hhere.inl G k nl s w f args xs x s' h hll hl hR hc
 rw [hb.run]
 simp only [Oper.uponIn_enter]
 refine ⟨hdep, CallsIn.mono (fenceOf_calls rd hcs) fun e w' he => ?_⟩
 obtain ⟨z, rfl, hz⟩ := he
 exact hK z w' (hz.step h rfl rfl rfl rfl)
theorem calln_sound {call : CallF} (hhere : HereSound P B0 w0 call) {rd : Option Nat} {n : Nat} {f : FuncId} {args : List AV} {xs : Array Value} {x : AV} (h : At P B0 w0 G k nl s w)
  (hl : xs.size = args.length) (hR : ∀ i (hi : i < args.length), Rel G k nl args[i] (xs.getD i Go.undef)) (hc : doCall call true s (.nat f) args = some (x, s'))
  {o : Oper} {a : Act} {K : Act → World → Prop} {Q : Exit → Act → World → Prop} (hK : ∀ z w', StepTo P B0 w0 G k nl s s' w' x z → K (a.put o.dst z) w') :
  o.uponIn (fenceOf rd) n P a K Q ((callFunc f xs).run P w) := by
 simp only [doCall, if_true] at hc
 obtain ⟨⟨y, s2⟩, hc', e⟩ := Option.map_eq_some_iff.1 hc
 injection e with e1 e2
 simp only at e1
 subst e1 e2
 obtain ⟨_, z, hz, hr⟩ := hhere.nat G.I _ w f args xs y s2 hl (fun i hi c hc => (hR i hi).close hc) hc'
 rw [hz, Oper.uponIn_value]
 exact hK z w (.same h hr.rel)
structure Behind (s s2 : Sig) (k : Nat) : Prop where
 loops : s2.loops = s.loops
 len2 : s2.acts.length = k + 2
 pop : s2.pop.acts = s.acts
 cur : s2.cur = k + 1
 ntok : ∀ q : Sig, q.acts = s2.acts → q.ntok k = s.ntok k
 nbox : ∀ q : Sig, q.acts = s2.acts → q.nbox k = s.nbox k
theorem behind {call : CallF} (hro : RoOk call) {f : FuncId} {args : List AV} {y : AV} {s2 : Sig} (h : At P B0 w0 G k nl s w)
  (hcl : call (.fn f) args { s.push ⟨[], []⟩ with ro := s.acts.length, lro := s.loops.length } = some (y, s2)) : Behind s s2 k := by
 have hlen := h.len
 have hal : ({ s.push ⟨[], []⟩ with ro := s.acts.length, lro := s.loops.length } : Sig).acts.length = k + 2 := by simp [Sig.push, hlen]
 obtain ⟨f1, f2, _, _, f3, f4⟩ := hro _ _ _ _ _ (by rw [hal, hlen]; exact Nat.le_succ _) (Nat.le_refl _) hcl
 simp only at f1 f2 f3 f4
 have hloops : s2.loops = s.loops := by
  refine List.ext_getElem f2 fun d h1 h2 => ?_
  have := f4 d h2
  rw [List.getElem?_eq_getElem h1] at this
  have h3 : (s.push ⟨[], []⟩).loops[d]? = some s.loops[d] := List.getElem?_eq_getElem h2
  rw [h3] at this
  injection this
 have hlen2 : s2.acts.length = k + 2 := by rw [f1]; simp [Sig.push, hlen]
 have hpop : s2.pop.acts = s.acts := by
  refine List.ext_getElem? fun d => ?_
  simp only [Sig.pop, dropLast_get hlen2]
  by_cases hd : d < k + 1
  ·rw [if_pos hd, f3 d (by rw [hlen]; exact hd)]
   simp only [Sig.push]
   rw [List.getElem?_append_left (by rw [hlen]; exact hd)]
  ·rw [if_neg hd, List.getElem?_eq_none (by rw [hlen]; omega)]
 have hk : s2.acts[k]? = s.acts[k]? := by
  rw [f3 k (by rw [hlen]; exact Nat.lt_succ_self k)]
  simp only [Sig.push]
  rw [List.getElem?_append_left (by rw [hlen]; exact Nat.lt_succ_self k)]
 exact ⟨hloops, hlen2, hpop, by simp [Sig.cur, hlen2], fun q hq => by simp only [Sig.ntok, hq, hk], fun q hq => by simp only [Sig.nbox, hq, hk]⟩
theorem callown_sound {call : CallF} (hcall : CallSound P B0 w0 call) (hro : RoOk call) {rd : Option Nat} {n : Nat} {f : FuncId} {args : List AV} {xs : Array Value} {x y : AV} {s2 : Sig} (h : At P B0 w0 G k nl s w)
  (hl : xs.size = args.length) (hR : ∀ i (hi : i < args.length), Rel G k nl args[i] (xs.getD i Go.undef))
  (hcl : call (.fn f) args { s.push ⟨[], []⟩ with ro := s.acts.length, lro := s.loops.length } = some (y, s2))
  (ho : ∃ s3, ownResult { s2 with ro := s.ro, lro := s.lro } y = some (x, s3) ∧ s3.acts = s'.acts ∧ s3.loops = s'.loops)
  {o : Oper} {a : Act} {K : Act → World → Prop} {Q : Exit → Act → World → Prop} (hK : ∀ z w', StepTo P B0 w0 G k nl s s' w' x z → K (a.put o.dst z) w') :
  o.uponIn (fenceOf rd) n P a K Q ((callFunc f xs).run P w) := by
 have hdep : (fenceOf rd).depth.isSome = true → 1 ≤ n := by rw [fenceOf_depth]; intro h; cases h
 have hp := push_sound h.rel
 have hlen := h.len
 have hple := G.pushA_le s.loops.length
 have hs1 : SRel P B0 w0 (G.pushA s.loops.length) { s.push ⟨[], []⟩ with ro := s.acts.length, lro := s.loops.length } w := hp.rel.of_eq rfl rfl
 have hal : ({ s.push ⟨[], []⟩ with ro := s.acts.length, lro := s.loops.length } : Sig).acts.length = k + 2 := by simp [Sig.push, hlen]
 obtain ⟨hb, hcs⟩ := hcall.fn (G.pushA s.loops.length) (k + 1) s.loops.length _ w f args xs y s2 hs1 (by rw [hal]; exact Nat.le_refl _) (by rw [hal]; exact Nat.le_succ _) (Nat.le_refl _) hl
  (fun i hi => (hR i hi).mono (hple _ _) (Nat.le_succ _) h.nle) hcl
 obtain ⟨hloops, hlen2, hpop, hcur, _, _⟩ := behind hro h hcl
 obtain ⟨s3, ho, ha3, hl3⟩ := ho
 rw [hb.run]
 simp only [Oper.uponIn_enter]
 refine ⟨hdep, CallsIn.mono (fenceOf_calls rd hcs) fun e w' he => ?_⟩
 obtain ⟨z, rfl, G', hsr, q1, q2, hle, hz⟩ := he
 refine hK z w' ?_
 have hgk : (G.pushA s.loops.length).acts[k + 1]? = some ⟨[], [], s.loops.length, [], fun _ => none, fun _ => none⟩ := by
  have : G.acts.length = k + 1 := by rw [h.rel.len, hlen]
  simp [Ghost.pushA, this]
 obtain ⟨gr', hg', hrl, _⟩ := hle.acts (k + 1) _ (Nat.le_succ _) hgk
 have hAt : At P B0 w0 G' (k + 1) s.loops.length { s2 with ro := s.ro, lro := s.lro } w' := ⟨hsr.of_eq rfl rfl, hlen2, gr', hg', hrl.nl⟩
 obtain ⟨G2, b1, b2, b3, b4, b5, b6, b7⟩ := ownResult_sound hAt (by show s2.loops.length = _; rw [hloops]) (kc := k) (nlc := nl) (Nat.le_refl _) hz ho
 have hGle : GLe (k + 1) s.loops.length G G2 := by
  refine ⟨fun b i v e => b4 b i v (hle.I b i v e), fun d gr hd e => ?_, fun l r hl e => b6 l r (hle.loops l r hl e)⟩
  have hd' : d < k + 1 := by
   have := (List.getElem?_eq_some_iff.1 e).1
   rw [h.rel.len, hlen] at this; exact this
  have e' : (G.pushA s.loops.length).acts[d]? = some gr := get_old e
  obtain ⟨g1, c1, c2, c3⟩ := hle.acts d gr (by omega) e'
  obtain ⟨g2, c4, c5, c6⟩ := b5 d g1 (by omega) c1
  exact ⟨g2, c4, c2.trans c5, fun _ => c6.trans (c3 (by omega))⟩
 have hs' : SRel P B0 w0 G2 s' w' := b1.of_eq ha3.symm hl3.symm
 exact ⟨G2, h.to hs' (hGle.less (Nat.le_succ _) h.nle) (by rw [← ha3, b2, hlen]), hGle, by rw [← hl3, b3]; exact congrArg List.length hloops, b7⟩
theorem callo_sound {call : CallF} (hcall : CallSound P B0 w0 call) (hro : RoOk call) {rd : Option Nat} {n : Nat} {f : FuncId} {args : List AV} {xs : Array Value} {x : AV} (h : At P B0 w0 G k nl s w)
  (hl : xs.size = args.length) (hR : ∀ i (hi : i < args.length), Rel G k nl args[i] (xs.getD i Go.undef)) (hc : calloOp call s f args = some (x, s'))
  {o : Oper} {a : Act} {K : Act → World → Prop} {Q : Exit → Act → World → Prop} (hK : ∀ z w', StepTo P B0 w0 G k nl s s' w' x z → K (a.put o.dst z) w') :
  o.uponIn (fenceOf rd) n P a K Q ((callFunc f xs).run P w) := by
 have hlen := h.len
 obtain ⟨y, s2, hcl⟩ : ∃ y s2, call (.fn f) args { s.push ⟨[], []⟩ with ro := s.acts.length, lro := s.loops.length } = some (y, s2) := by
  unfold calloOp at hc
  split at hc
  ·exact ⟨_, _, by assumption⟩
  ·cases hc
  ·exact ⟨_, _, by assumption⟩
  ·cases hc
 obtain ⟨hloops, hlen2, hpop, hcur, hnt, _⟩ := behind hro h hcl
 have hscur : s.cur = k := h.cur_eq
 refine callown_sound hcall hro h hl hR hcl ?_ hK
 unfold calloOp at hc
 rw [hcl] at hc
 split at hc
 ·rename_i d g es ys s4 e
  injection e with e
  injection e with e1 e2
  subst e1 e2
  have hc1 : ({ s2 with ro := s.ro, lro := s.lro } : Sig).cur = k + 1 := hcur
  split at hc
  ·rename_i hcond
   obtain ⟨c1, c2, c3, c4⟩ := hcond
   injection hc with hc
   injection hc with hc1' hc2'
   rw [hlen] at c1 c3
   subst c1
   refine ⟨({ s2 with ro := s.ro, lro := s.lro } : Sig).pop.addTok k ys.length, ?_, ?_, ?_⟩
   ·simp only [ownResult]
    rw [if_pos ⟨hc1.symm, by omega, c3, c4⟩, ← hc1', hscur]
    have := hnt { s2 with ro := s.ro, lro := s.lro } rfl
    simp only [Nat.add_sub_cancel, this]
   ·rw [← hc2', hscur]
    have : ({ s2 with ro := s.ro, lro := s.lro } : Sig).pop.acts = s.acts := hpop
    simp only [Sig.addTok, Sig.onRec, this]
   ·rw [← hc2']; exact hloops
  ·rename_i hcond
   injection hc with hc
   injection hc with hc1' hc2'
   refine ⟨({ s2 with ro := s.ro, lro := s.lro } : Sig).pop, ?_, ?_, ?_⟩
   ·simp only [ownResult]
    rw [if_neg (fun q => hcond ⟨by rw [hlen, ← hc1]; exact q.1, by rw [hlen]; omega, by rw [hlen, ← hc1, ← q.1]; exact q.2.2.1, q.2.2.2⟩), hc1']
   ·rw [← hc2']; exact hpop
   ·rw [← hc2']; exact hloops
 ·cases hc
 ·rename_i y' s4 hno hno2 e
  injection e with e
  injection e with e1 e2
  subst e1 e2
  obtain ⟨v, hv, hc⟩ := Option.map_eq_some_iff.1 hc
  injection hc with hc1' hc2'
  subst hc1'
  refine ⟨({ s2 with ro := s.ro, lro := s.lro } : Sig).pop, ?_, ?_, ?_⟩
  ·have hlv : leaveVal { s2 with ro := s.ro, lro := s.lro } y = leaveVal s2 y := leaveVal_ro
   unfold ownResult
   split
   ·rename_i d g es ys
    exact absurd rfl (hno d g es ys)
   ·exact absurd rfl (hno2 _ _ _ _ _ _)
   ·rw [hlv, hv]; rfl
  ·rw [← hc2']; exact hpop
  ·rw [← hc2']; exact hloops
 ·rename_i e; cases e
theorem callb_sound {call : CallF} (hcall : CallSound P B0 w0 call) (hro : RoOk call) {rd : Option Nat} {n : Nat} {f : FuncId} {args : List AV} {xs : Array Value} {x : AV} (h : At P B0 w0 G k nl s w)
  (hl : xs.size = args.length) (hR : ∀ i (hi : i < args.length), Rel G k nl args[i] (xs.getD i Go.undef)) (hc : callbOp call s f args = some (x, s'))
  {o : Oper} {a : Act} {K : Act → World → Prop} {Q : Exit → Act → World → Prop} (hK : ∀ z w', StepTo P B0 w0 G k nl s s' w' x z → K (a.put o.dst z) w') :
  o.uponIn (fenceOf rd) n P a K Q ((callFunc f xs).run P w) := by
 have hlen := h.len
 obtain ⟨y, s2, hcl⟩ : ∃ y s2, call (.fn f) args { s.push ⟨[], []⟩ with ro := s.acts.length, lro := s.loops.length } = some (y, s2) := by
  unfold callbOp at hc
  split at hc
  ·exact ⟨_, _, by assumption⟩
  ·cases hc
  ·exact ⟨_, _, by assumption⟩
  ·cases hc
 obtain ⟨hloops, hlen2, hpop, hcur, _, hnb⟩ := behind hro h hcl
 have hscur : s.cur = k := h.cur_eq
 refine callown_sound hcall hro h hl hR hcl ?_ hK
 have hlv : leaveVal { s2 with ro := s.ro, lro := s.lro } y = leaveVal s2 y := leaveVal_ro
 unfold callbOp at hc
 rw [hcl] at hc
 split at hc
 ·rename_i d b off es n cap s4 e
  injection e with e
  injection e with e1 e2
  subst e1 e2
  have hc1 : ({ s2 with ro := s.ro, lro := s.lro } : Sig).cur = k + 1 := hcur
  split at hc
  ·rename_i hcond
   obtain ⟨c1, c2, c3, rfl, rfl, c6⟩ := hcond
   obtain ⟨cs, hbx, hc⟩ := Option.bind_eq_some_iff.1 hc
   split at hc
   case isFalse => cases hc
   rename_i hcs
   obtain ⟨cs', hcc, hc⟩ := Option.map_eq_some_iff.1 hc
   injection hc with hc1' hc2'
   rw [hlen] at c1 c3
   subst c1
   refine ⟨({ s2 with ro := s.ro, lro := s.lro } : Sig).pop.addBox k cs', ?_, ?_, ?_⟩
   ·simp only [ownResult]
    rw [if_pos ⟨hc1.symm, by omega, c3, trivial, trivial, c6⟩]
    have hbx' : ({ s2 with ro := s.ro, lro := s.lro } : Sig).box (k + 1) b = some cs := hbx
    rw [hbx', Option.bind_some, if_pos hcs, hcc, ← hc1', hscur]
    have := hnb { s2 with ro := s.ro, lro := s.lro } rfl
    simp only [Nat.add_sub_cancel, this, Option.map_some]
   ·rw [← hc2']
    have : ({ s2 with ro := s.ro, lro := s.lro } : Sig).pop.acts = s.acts := hpop
    simp only [Sig.newBox, hscur, Sig.addBox, Sig.onRec, this]
   ·rw [← hc2']; exact hloops
  ·rename_i hcond
   obtain ⟨v, hv, hc⟩ := Option.map_eq_some_iff.1 hc
   injection hc with hc1' hc2'
   subst hc1'
   refine ⟨({ s2 with ro := s.ro, lro := s.lro } : Sig).pop, ?_, ?_, ?_⟩
   ·simp only [ownResult]
    rw [if_neg (fun q => hcond ⟨by rw [hlen, ← hc1]; exact q.1, by rw [hlen]; omega, by rw [hlen, ← hc1, ← q.1]; exact q.2.2.1, q.2.2.2⟩), hlv, hv]
    rfl
   ·rw [← hc2']; exact hpop
   ·rw [← hc2']; exact hloops
 ·cases hc
 ·rename_i y' s4 hno2 hno e
  injection e with e
  injection e with e1 e2
  subst e1 e2
  obtain ⟨v, hv, hc⟩ := Option.map_eq_some_iff.1 hc
  injection hc with hc1' hc2'
  subst hc1'
  refine ⟨({ s2 with ro := s.ro, lro := s.lro } : Sig).pop, ?_, ?_, ?_⟩
  ·unfold ownResult
   split
   ·rename_i d g es ys
    exact absurd rfl (hno d g es ys)
   ·exact absurd rfl (hno2 _ _ _ _ _ _)
   ·rw [hlv, hv]; rfl
  ·rw [← hc2']; exact hpop
  ·rw [← hc2']; exact hloops
 ·rename_i e; cases e
theorem callq_call {call : CallF} {m m' : Sig} {t : Target} {args : List AV} {ws : List (Bool × Nat × AV)} {v : AV} (h : callqOp call m t args ws = some (v, m')) : doCall call false m t args = some (v, m') := by
 unfold callqOp at h
 split at h
 ·rename_i v' m2 e
  split at h
  ·injection h with h
   simp only [doCall, Bool.false_eq_true, if_false]
   rw [e, h]
  ·cases h
 ·cases h
theorem fcall_call {call : CallF} {ro : Bool} {m m' : Sig} {zs : List (List AV)} {t : Target} {args : List AV} {v : AV} (h : fcallOp call ro m zs t args = some (v, m')) : doCall call ro m t args = some (v, m') := by
 unfold fcallOp at h
 split at h
 ·rename_i v' m2 e
  split at h
  ·injection h with h
   rw [e, h]
  ·cases h
 ·cases h
theorem compCall_cases {ro own : Bool} {mu : Mu} {fr : Option (List (List AV))} {c : Call} {aop : AOp} (h : compCall P ro own mu fr c = some aop) (hn : isCallA aop = true) : ∃ as f, mapO compOpd c.args.toList = some as ∧ c.callee = .value f ∧
  ((∃ g, f = .func g ∧ (aop = .call ro g as ∨ aop = .callo g as ∨ (∃ zs, aop = .fcall ro zs g as) ∨ aop = .calli g as ∨ aop = .calln g as ∨ aop = .callb g as ∨ aop = .callq g as mu.ws ∨ aop = .calliq g as mu.ws)) ∨ ∃ y, compOpd f = some y ∧ aop = .callv ro y as) := by
 unfold compCall at h
 split at h
 ·cases h
 rename_i as has
 split at h
 ·rename_i g hg
  injection h with h
  refine ⟨as, _, has, hg, .inl ⟨g, rfl, ?_⟩⟩
  split at h
  ·exact .inr (.inr (.inr (.inr (.inl h.symm))))
  split at h
  ·split at h
   ·exact .inr (.inr (.inr (.inr (.inr (.inr (.inr h.symm))))))
   ·exact .inr (.inr (.inr (.inl h.symm)))
  split at h
  ·exact .inr (.inr (.inr (.inr (.inr (.inl h.symm)))))
  split at h
  ·exact .inr (.inr (.inr (.inr (.inr (.inr (.inl h.symm))))))
  split at h
  ·exact .inr (.inl h.symm)
  ·split at h
   ·exact .inr (.inr (.inl ⟨_, h.symm⟩))
   ·exact .inl h.symm
 ·rename_i f hf hcal
  obtain ⟨y, hy, rfl⟩ := Option.map_eq_some_iff.1 h
  exact ⟨as, _, has, hcal, .inr ⟨y, hy, rfl⟩⟩
 ·cases h
 ·split at h
  ·split at h
   ·split at h
    ·split at h
     ·injection h with h
      subst h
      exfalso
      revert hn
      repeat' split
      all_goals simp [isCallA]
     ·cases h
    ·cases h
   ·split at h
    ·split at h <;> first | (cases h; done) | (injection h with h; subst h; simp [isCallA] at hn)
    ·cases h
   ·cases h
  ·split at h <;> first | (cases h; done) | (injection h with h; subst h; simp [isCallA] at hn)
  ·split at h <;> first | (cases h; done) | (injection h with h; subst h; simp [isCallA] at hn)
  ·split at h
   ·split at h <;> first | (cases h; done) | (injection h with h; subst h; simp [isCallA] at hn)
   ·cases h
  ·split at h
   ·split at h
    ·split at h <;> first | (cases h; done) | (injection h with h; subst h; simp [isCallA] at hn)
    ·cases h
   ·cases h
  ·injection h with h; subst h; simp [isCallA] at hn
  ·injection h with h; subst h; simp [isCallA] at hn
  ·cases h
theorem compOp_call {md : Md} {op : Op} {aop : AOp} (h : compOp P md op = some aop) (hn : isCallA aop = true) : ∃ c, op = .call c ∧ compCall P md.ro md.own md.mu md.fr c = some aop := by
  cases op with
  | call c => exact ⟨c, rfl, h⟩
  | move x => obtain ⟨y, _, rfl⟩ := Option.map_eq_some_iff.1 h; simp [isCallA] at hn
  | assign x => obtain ⟨y, _, rfl⟩ := Option.map_eq_some_iff.1 h; simp [isCallA] at hn
  | alloc x =>
    simp only [compOp] at h
    split at h <;> (obtain ⟨y, _, rfl⟩ := Option.map_eq_some_iff.1 h; simp [isCallA] at hn)
  | nilCheck x => obtain ⟨y, _, rfl⟩ := Option.map_eq_some_iff.1 h; simp [isCallA] at hn
  | unOp _ _ x => obtain ⟨y, _, rfl⟩ := Option.map_eq_some_iff.1 h; simp [isCallA] at hn
  | extract x _ => obtain ⟨y, _, rfl⟩ := Option.map_eq_some_iff.1 h; simp [isCallA] at hn
  | binOp op t x y yt =>
    obtain ⟨_, _, _, _, hq⟩ := compBin_cases h
    rcases hq with rfl | ⟨_, _, _, _, _, _, _, rfl⟩ <;> simp [isCallA] at hn
  | convert src dst x =>
    simp only [compOp] at h
    obtain ⟨y, _, h⟩ := Option.bind_eq_some_iff.1 h
    unfold compConv at h
    repeat' split at h
    all_goals first | (cases h; done) | (injection h with h; subst h; simp [isCallA] at hn)
  | makeFunc fn a b =>
    cases fn <;> simp only [compOp] at h <;> first | (cases h; done) | skip
    split at h
    · injection h with h; subst h; simp [isCallA] at hn
    · cases h
  | makeMap t r =>
    cases r <;> simp only [compOp] at h <;> first | (cases h; done) | skip
    split at h
    · injection h with h; subst h; simp [isCallA] at hn
    · cases h
  | lookup t x y ok =>
    cases ok <;> simp only [compOp] at h <;> first | (cases h; done) | skip
    split at h
    · split at h
      · injection h with h; subst h; simp [isCallA] at hn
      · cases h
    · cases h
  | _ =>
    simp only [compOp] at h
    first
      | (cases h; done)
      | (repeat' split at h
         all_goals first
          | (cases h; done)
          | (injection h with h; subst h; simp [isCallA] at hn; done)
          | (obtain ⟨_, _, rfl⟩ := Option.map_eq_some_iff.1 h; simp [isCallA] at hn))
noncomputable def stepA (call : CallF) (o : AOper) (st : St) : Option St :=
 if wantedT st.tmps o.guard then
  match opv call (evalT st.tmps) st.sig o.op with
  | some (x, m) => some ⟨putT st.tmps o.dst x, m⟩
  | none => none
 else some ⟨putT st.tmps o.dst AV.undef, st.sig⟩
theorem ops_cons (call : CallF) (o : AOper) (r : List AOper) (st : St) : ops call (o :: r) st = (stepA call o st).bind (ops call r) := by
 simp only [ops, stepA]
 split
 ·split
  ·rename_i h
   simp [h]
  ·rename_i h
   simp [h]
 ·rfl
theorem op_step {call : CallF} (hcall : CallSound P B0 w0 call) (hhere : HereSound P B0 w0 call) (hro : RoOk call) {rd : Option Nat} {n : Nat} {md : Md} {all : List Oper} {o : Oper} {ao : AOper} {st st' : St} {a : Act} (h : At P B0 w0 G k nl st.sig w) (hll : st.sig.loops.length = nl) (hR : TmpsRel G k nl st.tmps a)
  (hg : compGuard all o.guard = some ao.guard) (hop : compOp P md o.op = some ao.op) (hdst : ao.dst = o.dst) (hd : ∀ t, ao.dst = some t → t < a.tmps.size) (hs : stepA call ao st = some st')
  {K : Act → World → Prop} {Q : Exit → Act → World → Prop} (hK : ∀ a' w', PostTo P B0 w0 G k nl st.sig a st' a' w' → K a' w') :
  if Region.wanted o (yielded all.toArray a.tmps) then o.wpIn (fenceOf rd) n P a w K Q else (∀ f, o.about P w a.eval = some f → (fenceOf rd).fn f) ∧ K (a.put o.dst Go.undef) w := by
 rw [wanted_eq hg hR]
 unfold stepA at hs
 cases hw : wantedT st.tmps ao.guard with
 | false =>
  rw [hw] at hs
  simp only [Bool.false_eq_true, if_false, Option.some.injEq] at hs ⊢
  subst hs
  refine ⟨fun f _ => fenceOf_fn rd f, hK _ _ ?_⟩
  rw [← hdst]
  exact (StepTo.same h .undef).post h hR hd
 | true =>
  rw [hw] at hs
  simp only [if_true] at hs ⊢
  split at hs
  case h_2 => cases hs
  rename_i x m hv
  injection hs with hs
  subst hs
  refine ⟨fun f _ => fenceOf_fn rd f, ?_⟩
  cases hcl : isCallA ao.op with
  | false =>
   have hnd : ∀ c, o.op ≠ .defer c := fun c e => by rw [e] at hop; simp [compOp] at hop
   rw [Oper.semAt_eq _ _ _ hnd]
   obtain ⟨w', hq⟩ := opv_sound h hR hop hcl hv
   rcases hq with ⟨z, h1, h2⟩ | ⟨h1, h2⟩
   ·rw [h1, Oper.uponIn_value]
    refine hK _ _ ?_
    rw [← hdst]
    exact h2.post h hR hd
   ·rw [h1, Oper.uponIn_skip]
    refine hK _ _ ?_
    rw [← hdst]
    exact h2.post h hR hd
  | true =>
   obtain ⟨c, hc, hcc⟩ := compOp_call hop hcl
   obtain ⟨as, f, has, hcal, hq⟩ := compCall_cases hcc hcl
   have hargs := args_rel has hR
   have hsem : o.semAt (fenceOf rd).round a.eval = (do let d ← Deferred.ofValue (a.eval f) (c.args.map a.eval); invoke d.target d.args) := by
    rw [Oper.semAt_eq _ _ _ (fun c' e => by rw [hc] at e; cases e)]
    unfold execOp
    rw [hc]
    simp only [resolve, hcal]
   rw [hsem]
   have hK' : ∀ z w', StepTo P B0 w0 G k nl st.sig m w' x z → K (a.put o.dst z) w' := fun z w' hst => by
    refine hK _ _ ?_
    rw [← hdst]
    exact hst.post h hR hd
   have hargs' : (c.args.map a.eval).size = (as.map (evalT st.tmps)).length ∧ ∀ i (hi : i < (as.map (evalT st.tmps)).length), Rel G k nl (as.map (evalT st.tmps))[i] ((c.args.map a.eval).getD i Go.undef) := by
    simpa using hargs
   have hrunf : ∀ g, (do let d ← Deferred.ofValue (a.eval (.func g)) (c.args.map a.eval); invoke d.target d.args : Sem Next).run P w = (callFunc g (c.args.map a.eval)).run P w := fun g => by
    have e1 : a.eval (.func g) = .func (.func g) #[] #[] := rfl
    rw [e1]
    simp only [Sem.run_bind, ofValue_run (P := P) rfl, Result.andThen_ok]
    simp [invoke]
   rcases hq with ⟨g, rfl, e | e | ⟨zs, e⟩ | e | e | e | e | e⟩ | ⟨y, hy, e⟩
   ·rw [e] at hv
    simp only [opv] at hv
    have hv' : callvOp call md.ro st.sig (.fn g [] []) (as.map (evalT st.tmps)) = some (x, m) := by
     simpa [callvOp] using hv
    exact callv_sound hcall hro h (.cl (.fn rfl rfl (fun i hi => absurd hi (Nat.not_lt_zero _)) (fun i hi => absurd hi (Nat.not_lt_zero _)))) hargs'.1 hargs'.2 hv' hK'
   ·rw [e] at hv
    simp only [opv] at hv
    rw [hrunf]
    exact callo_sound hcall hro h hargs'.1 hargs'.2 hv hK'
   ·rw [e] at hv
    simp only [opv] at hv
    have hv' : callvOp call md.ro st.sig (.fn g [] []) (as.map (evalT st.tmps)) = some (x, m) := by
     simpa [callvOp] using fcall_call hv
    exact callv_sound hcall hro h (.cl (.fn rfl rfl (fun i hi => absurd hi (Nat.not_lt_zero _)) (fun i hi => absurd hi (Nat.not_lt_zero _)))) hargs'.1 hargs'.2 hv' hK'
   ·rw [e] at hv
    simp only [opv] at hv
    rw [hrunf]
    exact calli_sound hhere h hll hargs'.1 hargs'.2 hv hK'
   ·rw [e] at hv
    simp only [opv] at hv
    rw [hrunf]
    exact calln_sound hhere h hargs'.1 hargs'.2 hv hK'
   ·rw [e] at hv
    simp only [opv] at hv
    rw [hrunf]
    exact callb_sound hcall hro h hargs'.1 hargs'.2 hv hK'
   ·rw [e] at hv
    simp only [opv] at hv
    have hv' : callvOp call false st.sig (.fn g [] []) (as.map (evalT st.tmps)) = some (x, m) := by
     simpa [callvOp] using callq_call hv
    exact callv_sound hcall hro h (.cl (.fn rfl rfl (fun i hi => absurd hi (Nat.not_lt_zero _)) (fun i hi => absurd hi (Nat.not_lt_zero _)))) hargs'.1 hargs'.2 hv' hK'
   ·rw [e] at hv
    simp only [opv] at hv
    have hv' := callq_call hv
    rw [hrunf]
    exact calli_sound hhere h hll hargs'.1 hargs'.2 hv' hK'
   ·rw [e] at hv
    exact callv_sound hcall hro h (opd_rel hy hR) hargs'.1 hargs'.2 hv hK'
end
end Go.Ax

/-
  A region in its own order, and one whose order is drawn.
-/
namespace Go.Ax
open Go.RowKit
section
variable {P : Program} {B0 : Nat} {w0 : World} {G : Ghost} {k nl : Nat} {w : World} {s : Sig}
theorem PostTo.trans {a a1 a2 : Act} {st1 st2 : St} {w1 w2 : World} (h : PostTo P B0 w0 G k nl s a st1 a1 w1)
  (h' : ∀ G', At P B0 w0 G' k nl st1.sig w1 → TmpsRel G' k nl st1.tmps a1 → PostTo P B0 w0 G' k nl st1.sig a1 st2 a2 w2) : PostTo P B0 w0 G k nl s a st2 a2 w2 := by
 obtain ⟨G1, h1, h2, h3, h4, h5, h6⟩ := h
 obtain ⟨G2, g1, g2, g3, g4, g5, g6⟩ := h' G1 h1 h4
 rw [h3] at g2 g3
 exact ⟨G2, g1, h2.trans g2, g3, g4, g5.trans h5, g6.trans h6⟩
theorem ops_sound {call : CallF} (hcall : CallSound P B0 w0 call) (hhere : HereSound P B0 w0 call) (hro : RoOk call) {rd : Option Nat} {n : Nat} {all : List Oper} {md : Nat → Md} {Q : Exit → Act → World → Prop} : ∀ (l : List Oper) (i : Nat) (al : List AOper) (G : Ghost) (st st' : St) (a : Act) (w : World),
  compOpers P all md i l = some al → At P B0 w0 G k nl st.sig w → st.sig.loops.length = nl → TmpsRel G k nl st.tmps a → (∀ o, o ∈ al → ∀ t, o.dst = some t → t < a.tmps.size) → ops call al st = some st' →
  (∀ a' w', PostTo P B0 w0 G k nl st.sig a st' a' w' → Q .normal a' w') → wpListIn (fenceOf rd) n P all.toArray Q l a w
 | [], i, al, G, st, st', a, w, hc, h, hll, hR, hd, hs, hQ => by
  simp only [compOpers] at hc
  injection hc with hc
  subst hc
  simp only [ops] at hs
  injection hs with hs
  subst hs
  exact hQ a w ⟨G, h, .refl _ _ _, rfl, hR, rfl, rfl⟩
 | o :: r, i, al, G, st, st', a, w, hc, h, hll, hR, hd, hs, hQ => by
  simp only [compOpers] at hc
  split at hc
  ·rename_i g op rest e1 e2 e3
   injection hc with hc
   subst hc
   rw [ops_cons] at hs
   obtain ⟨st1, hs1, hs2⟩ := Option.bind_eq_some_iff.1 hs
   unfold wpListIn
   refine op_step hcall hhere hro h hll hR (ao := ⟨o.dst, g, op⟩) e1 e2 rfl (fun t ht => hd _ (by simp) t ht) hs1 fun a1 w1 hp => ?_
   obtain ⟨G1, g1, g2, g3, g4, g5, g6⟩ := hp
   refine ops_sound hcall hhere hro r (i + 1) rest G1 st1 st' a1 w1 e3 g1 (g3.trans hll) g4 (fun o' ho t ht => by rw [g5]; exact hd o' (by simp [ho]) t ht) hs2 fun a' w' hp' => hQ a' w' ?_
   obtain ⟨G2, q1, q2, q3, q4, q5, q6⟩ := hp'
   rw [g3] at q2 q3
   exact ⟨G2, q1, g2.trans q2, q3, q4, q5.trans g5, q6.trans g6⟩
  ·cases hc
def SameBoxes (m m' : Sig) : Prop := ∀ d b, m'.box d b = m.box d b
theorem SameBoxes.mapHas {m m' : Sig} (h : SameBoxes m m') (x k : AV) : mapHasOp m' x k = mapHasOp m x k := by
 unfold mapHasOp
 split
 ·simp only [Sig.mpKeys, h _ _]
 ·rfl
theorem SameBoxes.load {m m' : Sig} (h : SameBoxes m m') (agg : Bool) (n : Nat) (x : AV) : m'.load agg n x = m.load agg n x := by
 have : m'.row x = m.row x := by cases x <;> simp [Sig.row, h _ _]
 simp [Sig.load, this]
theorem SameBoxes.loadq {m m' : Sig} (h : SameBoxes m m') {agg : Bool} {n off : Nat} (x y : AV) : loadqOp m' agg n x off y = loadqOp m agg n x off y := by
 unfold loadqOp
 split
 ·exact h.load _ _ _
 ·rw [h.load]
 ·rfl
def agreeOn (l : List Nat) (ρ ρ' : Nat → AV) : Prop := ∀ t, t ∈ l → ρ t = ρ' t
theorem evalT_agree {x : AOpd} {ρ ρ' : Nat → AV} (h : agreeOn (readsOpd x) ρ ρ') : evalT ρ x = evalT ρ' x := by
 cases x with
 | tmp t => exact h t (by simp [readsOpd])
 | const c => rfl
theorem agree_left {l l' : List Nat} {ρ ρ' : Nat → AV} (h : agreeOn (l ++ l') ρ ρ') : agreeOn l ρ ρ' := fun t ht => h t (List.mem_append_left _ ht)
theorem agree_right {l l' : List Nat} {ρ ρ' : Nat → AV} (h : agreeOn (l ++ l') ρ ρ') : agreeOn l' ρ ρ' := fun t ht => h t (List.mem_append_right _ ht)
theorem agree_list {xs : List AOpd} {ρ ρ' : Nat → AV} (h : agreeOn (xs.flatMap readsOpd) ρ ρ') : xs.map (evalT ρ) = xs.map (evalT ρ') := by
 induction xs with
 | nil => rfl
 | cons x r ih =>
  simp only [List.flatMap_cons] at h
  simp only [List.map_cons]
  rw [evalT_agree (agree_left h), ih (agree_right h)]
theorem agree_opt {x : Option AOpd} {ρ ρ' : Nat → AV} (h : agreeOn (readsOpt x) ρ ρ') : evalOpt (evalT ρ) x = evalOpt (evalT ρ') x := by
 cases x with
 | none => rfl
 | some x => simp only [evalOpt]; rw [evalT_agree h]
theorem agree_cells {ps : List (Nat × Nat × AOpd)} {ρ ρ' : Nat → AV} (h : agreeOn (ps.flatMap fun p => readsOpd p.2.2) ρ ρ') (cs : List AV) : buildCells cs (evalT ρ) ps = buildCells cs (evalT ρ') ps := by
 induction ps generalizing cs with
 | nil => rfl
 | cons p r ih =>
  obtain ⟨o, z, x⟩ := p
  simp only [List.flatMap_cons] at h
  simp only [buildCells]
  rw [evalT_agree (agree_left h)]
  split
  ·exact ih (agree_right h) _
  ·rfl
theorem agree_rows {ps : List (Nat × AOpd)} {ρ ρ' : Nat → AV} (h : agreeOn (ps.flatMap fun p => readsOpd p.2) ρ ρ') (rs : List (List AV)) : buildRows rs (evalT ρ) ps = buildRows rs (evalT ρ') ps := by
 induction ps generalizing rs with
 | nil => rfl
 | cons p r ih =>
  obtain ⟨o, x⟩ := p
  simp only [List.flatMap_cons] at h
  simp only [buildRows]
  rw [evalT_agree (agree_left h)]
  split
  ·split
   ·exact ih (agree_right h) _
   ·rfl
  ·rfl
theorem opv_agree {call : CallF} {op : AOp} {ρ ρ' : Nat → AV} (h : agreeOn (readsOp op) ρ ρ') (m : Sig) : opv call (evalT ρ) m op = opv call (evalT ρ') m op := by
 cases op <;> simp only [readsOp] at h <;> simp only [opv] <;> first
  | rfl
  | (rw [evalT_agree h]; done)
  | (exact congrArg (buildFzOp m _ _) (evalT_agree (x := .tmp _) h))
  | (rw [evalT_agree (agree_left h), evalT_agree (agree_right h)]; done)
  | (rw [evalT_agree (agree_left (agree_left h)), evalT_agree (agree_right (agree_left h)), evalT_agree (agree_right h)]; done)
  | (rw [agree_cells h]; done)
  | (rw [agree_rows h]; done)
  | (rw [agree_list h]; done)
  | (rw [agree_list (agree_left h), agree_list (agree_right h)]; done)
  | (rename_i f as ws; rw [agree_list (agree_left h)]; exact congrArg (callqOp call m _ _) (List.map_congr_left fun q hq => by have := evalT_agree (x := .tmp q.2.2) (fun t ht => agree_right h t (by rw [List.mem_singleton.1 ht]; exact List.mem_map.2 ⟨q, hq, rfl⟩)); rw [this]))
  | (rename_i agg n x off t; rw [evalT_agree (agree_left h), evalT_agree (x := .tmp t) (agree_right h)]; done)
  | (rename_i n x y ws; rw [evalT_agree (agree_left (agree_left h)), evalT_agree (agree_right (agree_left h))]; exact congrArg (fun q => (storeqOp m n _ _ q).map (AV.undef, ·)) (List.map_congr_left fun q hq => by have := evalT_agree (x := .tmp q.2.2.2) (fun t ht => agree_right h t (by rw [List.mem_singleton.1 ht]; exact List.mem_map.2 ⟨q, hq, rfl⟩)); rw [this]))
  | (rw [evalT_agree (agree_left h), agree_list (agree_right h)]; done)
  | (rw [evalT_agree (agree_left (agree_left (agree_left h))), agree_opt (agree_right (agree_left (agree_left h))), agree_opt (agree_right (agree_left h)), agree_opt (agree_right h)]; done)
theorem opv_pure {call : CallF} {op : AOp} (h : classOf op = .pure) : ∃ f : (AOpd → AV) → Option AV, ∀ ρ m, opv call ρ m op = (f ρ).map (·, m) := by
 cases op <;> simp only [classOf] at h <;> first
  | (cases h; done)
  | (split at h <;> cases h; done)
  | exact ⟨_, fun ρ m => rfl⟩
  | skip
 case move x => exact ⟨fun ρ => some (ρ x), fun _ _ => rfl⟩
 case build zs ps => exact ⟨fun ρ => (buildCells zs ρ ps).map .agg, fun ρ m => by simp only [opv, Option.map_map]; rfl⟩
 case buildSlice es rs ps => exact ⟨fun ρ => (buildRows rs ρ ps).map (.slice .full es), fun ρ m => by simp only [opv, Option.map_map]; rfl⟩
 case eqv neg kd x y => exact ⟨fun ρ => (eqOp kd (ρ x) (ρ y)).map fun t => .v (.bool (if neg then !t else t)), fun ρ m => by simp only [opv, Option.map_map]; rfl⟩
 case mkFn f a b => exact ⟨fun ρ => if (a.map ρ).all AV.isClosedV then some (.fn f (a.map ρ) (b.map ρ)) else none, fun ρ m => by simp only [opv]; split <;> rfl⟩
 case lenArr n => exact ⟨fun _ => some (AV.int n), fun _ _ => rfl⟩
theorem box_toks {m : Sig} {d : Nat} {f : Rec → Rec} (hf : ∀ r, (f r).boxes = r.boxes) : SameBoxes m (m.onRec d f) := fun d' b => by
 simp only [Sig.box, Sig.onRec, modify_get]
 by_cases h : d = d'
 ·subst h
  rw [if_pos rfl]
  cases m.acts[d]? with
  | none => rfl
  | some r => simp [hf]
 ·rw [if_neg h]
theorem opv_soft {call : CallF} {op : AOp} (h : classOf op = .soft) {ρ : AOpd → AV} {m m' : Sig} {x : AV} (ho : opv call ρ m op = some (x, m')) : SameBoxes m m' := by
 cases op <;> simp only [classOf] at h <;> first | (cases h; done) | skip
 case call ro f as =>
  cases ro
  ·cases h
  ·simp only [opv, doCall, if_true] at ho
   obtain ⟨p, _, ho⟩ := Option.map_eq_some_iff.1 ho
   injection ho with _ ho
   subst ho
   exact fun _ _ => rfl
 case calln f as =>
  simp only [opv, doCall, if_true] at ho
  obtain ⟨p, _, ho⟩ := Option.map_eq_some_iff.1 ho
  injection ho with _ ho
  subst ho
  exact fun _ _ => rfl
 case callv ro f as =>
  cases ro
  ·cases h
  ·simp only [opv, callvOp] at ho
   split at ho
   ·simp only [doCall, if_true] at ho
    obtain ⟨p, _, ho⟩ := Option.map_eq_some_iff.1 ho
    injection ho with _ ho
    subst ho
    exact fun _ _ => rfl
   ·simp only [doCall, if_true] at ho
    obtain ⟨p, _, ho⟩ := Option.map_eq_some_iff.1 ho
    injection ho with _ ho
    subst ho
    exact fun _ _ => rfl
   ·cases ho
 case callo f as =>
  simp only [opv, calloOp] at ho
  split at ho
  ·split at ho
   ·injection ho with ho
    injection ho with _ ho
    subst ho
    exact box_toks fun r => rfl
   ·injection ho with ho
    injection ho with _ ho
    subst ho
    exact fun _ _ => rfl
  ·cases ho
  ·obtain ⟨_, _, ho⟩ := Option.map_eq_some_iff.1 ho
   injection ho with _ ho
   subst ho
   exact fun _ _ => rfl
  ·cases ho
 case append es a b =>
  simp only [opv, appendOp] at ho
  split at ho
  ·split at ho
   ·injection ho with ho
    injection ho with _ ho
    subst ho
    exact fun _ _ => rfl
   ·split at ho
    ·split at ho
     ·injection ho with ho
      injection ho with _ ho
      subst ho
      exact box_toks fun r => rfl
     ·injection ho with ho
      injection ho with _ ho
      subst ho
      exact box_toks fun r => rfl
     ·split at ho
      ·injection ho with ho
       injection ho with _ ho
       subst ho
       exact box_toks fun r => rfl
      ·cases ho
     ·cases ho
    ·cases ho
  ·cases ho
theorem opv_load {call : CallF} {op : AOp} (h : classOf op = .load) {ρ : AOpd → AV} {m m' : Sig} (hs : SameBoxes m m') : ∃ r : Option AV, opv call ρ m op = r.map (·, m) ∧ opv call ρ m' op = r.map (·, m') := by
 cases op <;> simp only [classOf] at h <;> first | (cases h; done) | (split at h <;> cases h; done) | skip
 case load agg n x => exact ⟨m.load agg n (ρ x), rfl, by simp only [opv]; rw [hs.load]⟩
 case mapHas x k => exact ⟨mapHasOp m (ρ x) (ρ k), rfl, by simp only [opv]; rw [hs.mapHas]⟩
 case loadq agg n x off t => exact ⟨loadqOp m agg n (ρ x) off (ρ (.tmp t)), rfl, by simp only [opv]; rw [hs.loadq]⟩
def Grows (m m' : Sig) : Prop := ∀ d b cs, m.box d b = some cs → ∃ cs', m'.box d b = some cs' ∧ (cs' = cs ∨ cs = [])
theorem Grows.newBox (m : Sig) (cs : List AV) : Grows m (m.newBox cs).2 := fun d b ds h => by
 refine ⟨ds, ?_, .inl rfl⟩
 simp only [Sig.box, Sig.newBox, Sig.addBox, Sig.onRec, modify_get] at h ⊢
 by_cases hd : m.cur = d
 ·subst hd
  rw [if_pos rfl]
  cases hr : m.acts[m.cur]? with
  | none => rw [hr] at h; cases h
  | some r =>
   rw [hr] at h
   exact get_old h
 ·rw [if_neg hd]
  exact h
theorem cur_setBox (m : Sig) (d b : Nat) (cs : List AV) : (m.setBox d b cs).cur = m.cur := by simp [Sig.cur, Sig.setBox, Sig.onRec]
theorem box_setBox (m : Sig) (d b : Nat) (cs : List AV) (d' b' : Nat) : (m.setBox d b cs).box d' b' = if d = d' ∧ b = b' then (m.box d' b').map fun _ => cs else m.box d' b' := by
 simp only [Sig.box, Sig.setBox, Sig.onRec, modify_get]
 by_cases hd : d = d'
 ·subst hd
  rw [if_pos rfl]
  cases m.acts[d]? with
  | none => simp
  | some r =>
   simp only [Option.map_some, Option.bind_some, List.getElem?_set]
   by_cases hb : b = b'
   ·subst hb
    simp only [true_and, if_pos]
    by_cases hlt : b < r.boxes.length
    ·simp [hlt]
    ·simp [hlt, List.getElem?_eq_none (Nat.le_of_not_lt hlt)]
   ·simp [hb]
 ·simp [hd]
theorem nbox_setBox (m : Sig) (d b : Nat) (cs : List AV) (d' : Nat) : (m.setBox d b cs).nbox d' = m.nbox d' := by
 simp only [Sig.nbox, Sig.setBox, Sig.onRec, modify_get]
 by_cases hd : d = d'
 ·subst hd
  rw [if_pos rfl]
  cases m.acts[d]? <;> simp
 ·simp [hd]
theorem setBox_comm (m : Sig) (d b : Nat) (cs : List AV) (b' : Nat) (cs' : List AV) (hb : b ≠ b') : (m.setBox d b cs).setBox d b' cs' = (m.setBox d b' cs').setBox d b cs := by
 simp only [Sig.setBox, Sig.onRec]
 congr 1
 refine List.ext_getElem? fun i => ?_
 simp only [modify_get]
 by_cases hd : d = i
 ·subst hd
  simp only [if_pos]
  cases m.acts[d]? with
  | none => rfl
  | some r =>
   simp only [Option.map_some, Option.some.injEq]
   congr 1
   exact List.set_comm _ _ hb
 ·simp [hd]
theorem slotOp_spec {m m' : Sig} {back : Nat} {zs : List AV} {v : AV} (h : slotOp m back zs = some (v, m')) :
  m.box m.cur (m.nbox m.cur - back) = some [] ∧ (zs.isEmpty = false ∧ (m.noneTok m.cur = false ∨ back = 1)) ∧ v = .ptr m.cur (m.nbox m.cur - back) 0 ∧ m' = m.setBox m.cur (m.nbox m.cur - back) zs := by
 unfold slotOp at h
 split at h
 ·rename_i hb
  split at h
  ·cases h
  ·rename_i hz
   injection h with h
   injection h with h1 h2
   refine ⟨hb, ⟨?_, by cases e : m.noneTok m.cur with | true => exact .inr (Classical.byContradiction fun hb1 => hz (.inr ⟨e, hb1⟩)) | false => exact .inl rfl⟩, h1.symm, h2.symm⟩
   cases he : zs.isEmpty with
   | false => rfl
   | true => exact absurd (.inl he) hz
 ·cases h
theorem slotOp_of {m : Sig} {back : Nat} {zs : List AV} (h1 : m.box m.cur (m.nbox m.cur - back) = some []) (h2 : zs.isEmpty = false ∧ (m.noneTok m.cur = false ∨ back = 1)) :
  slotOp m back zs = some (.ptr m.cur (m.nbox m.cur - back) 0, m.setBox m.cur (m.nbox m.cur - back) zs) := by
 unfold slotOp
 rw [h1]
 have hn : ¬ (zs.isEmpty = true ∨ (m.noneTok m.cur = true ∧ back ≠ 1)) := by
  rintro (h | ⟨h, hb⟩)
  ·rw [h2.1] at h; cases h
  ·rcases h2.2 with h3 | h3
   ·exact absurd (h3.symm.trans h) (by decide)
   ·exact hb h3
 simp only [if_neg hn]
theorem ntok_setBox (m : Sig) (d b : Nat) (cs : List AV) (d' : Nat) : (m.setBox d b cs).noneTok d' = m.noneTok d' := by
 simp only [Sig.noneTok, Sig.setBox, Sig.onRec, List.getElem?_modify]
 by_cases h : d = d'
 ·subst h
  cases m.acts[d]? <;> simp
 ·simp [h]
theorem slot_swap {m m1 m2 : Sig} {b1 b2 : Nat} {z1 z2 : List AV} {v u : AV} (h1 : slotOp m b1 z1 = some (v, m1)) (h2 : slotOp m1 b2 z2 = some (u, m2)) :
  ∃ m1', slotOp m b2 z2 = some (u, m1') ∧ slotOp m1' b1 z1 = some (v, m2) := by
 obtain ⟨a1, a2, rfl, rfl⟩ := slotOp_spec h1
 obtain ⟨c1, c2, rfl, rfl⟩ := slotOp_spec h2
 simp only [cur_setBox, nbox_setBox] at c1 ⊢
 rw [cur_setBox, ntok_setBox] at c2
 have hne : m.nbox m.cur - b1 ≠ m.nbox m.cur - b2 := fun e => by
  rw [box_setBox, if_pos ⟨rfl, e⟩, ← e, a1] at c1
  simp only [Option.map_some, Option.some.injEq] at c1
  rw [c1] at a2
  exact absurd a2.1 (by decide)
 have c1' : m.box m.cur (m.nbox m.cur - b2) = some [] := by
  rw [box_setBox, if_neg (fun e => hne e.2)] at c1
  exact c1
 refine ⟨_, slotOp_of c1' c2, ?_⟩
 have := slotOp_of (m := m.setBox m.cur (m.nbox m.cur - b2) z2) (back := b1) (zs := z1) (by
  simp only [cur_setBox, nbox_setBox]
  rw [box_setBox, if_neg (fun e => hne e.2.symm)]
  exact a1) (by rw [cur_setBox, ntok_setBox]; exact a2)
 rw [this]
 simp only [cur_setBox, nbox_setBox]
 rw [setBox_comm _ _ _ _ _ _ (Ne.symm hne)]
def FreshTo (m m' : Sig) : Prop := m' = m ∨ ∃ cs, cs ≠ [] ∧ m' = (m.newBox cs).2
theorem opv_freshTo {call : CallF} {op : AOp} (h : classOf op = .fresh) {ρ : AOpd → AV} {m m' : Sig} {x : AV} (ho : opv call ρ m op = some (x, m')) : FreshTo m m' := by
 cases op <;> simp only [classOf] at h <;> first | (cases h; done) | (split at h <;> cases h; done) | skip
 case alloc zs =>
  simp only [opv] at ho
  split at ho
  ·cases ho
  rename_i hz
  simp only [Option.some.injEq] at ho
  exact .inr ⟨zs, fun e => hz (by rw [e]; rfl), by rw [ho]⟩
 case box n y =>
  simp only [opv, boxOp] at ho
  split at ho
  ·rename_i hc
   injection ho with ho
   exact .inr ⟨(ρ y).cells, fun e => by have h1 := hc.1; have h2 := hc.2.2; rw [e] at h1; simp at h1; omega, by rw [ho]⟩
  ·cases ho
 case rowBox es y =>
  simp only [opv, rowBoxOp] at ho
  split at ho
  ·rename_i hc
   injection ho with ho
   exact .inr ⟨(ρ y).cells, fun e => by have h1 := hc.1; have h2 := hc.2.2; rw [e] at h1; simp at h1; omega, (congrArg Prod.snd ho).symm⟩
  ·cases ho
 case callb f as =>
  simp only [opv, callbOp] at ho
  split at ho
  ·split at ho
   ·obtain ⟨cs, _, ho⟩ := Option.bind_eq_some_iff.1 ho
    split at ho
    case isFalse => cases ho
    rename_i hcs
    obtain ⟨cs', hcc, ho⟩ := Option.map_eq_some_iff.1 ho
    injection ho with _ ho
    refine .inr ⟨cs', fun e => ?_, ho.symm⟩
    subst e
    cases cs with
    | nil => exact absurd hcs.1 (by decide)
    | cons q r =>
     simp only [closeAll] at hcc
     split at hcc <;> cases hcc
   ·obtain ⟨_, _, ho⟩ := Option.map_eq_some_iff.1 ho
    injection ho with _ ho
    exact .inl ho.symm
  ·cases ho
  ·obtain ⟨_, _, ho⟩ := Option.map_eq_some_iff.1 ho
   injection ho with _ ho
   exact .inl ho.symm
  ·cases ho
 case mkSlice es zs l c =>
  simp only [opv, mkSliceOp] at ho
  obtain ⟨_, _, ho⟩ := Option.bind_eq_some_iff.1 ho
  obtain ⟨_, _, ho⟩ := Option.map_eq_some_iff.1 ho
  split at ho
  ·injection ho with _ ho
   exact .inl ho.symm
  ·rename_i hz
   injection ho with _ ho
   exact .inr ⟨_, fun e => hz (by rw [e]; rfl), ho.symm⟩
 case appendf es a b =>
  simp only [opv, appendfOp] at ho
  split at ho
  ·rename_i o e1 xs o2 e2 ys he1 he2
   split at ho
   ·cases ho
   rename_i hz
   split at ho
   ·rename_i hcond
    obtain ⟨rfl, _, _, _, hlong, _⟩ := hcond
    injection ho with ho
    injection ho with _ ho
    exact .inr ⟨_, fun e => hz ⟨by rw [List.flatten_nil, List.nil_append, e]; rfl, by cases ys with
     | nil => simp at hlong
     | cons => rfl⟩, ho.symm⟩
   rw [he1, he2] at ho
   simp only [appendmOp] at ho
   split at ho
   ·simp only [Option.some.injEq, Prod.mk.injEq] at ho
    exact .inl ho.2.symm
   ·rename_i hy
    split at ho
    ·split at ho
     ·injection ho with ho
      injection ho with _ ho
      exact .inr ⟨_, fun e => hz ⟨by rw [e]; rfl, by simpa using hy⟩, ho.symm⟩
     ·cases ho
    ·cases ho
  ·cases ho
theorem opv_fresh {call : CallF} {op : AOp} (h : classOf op = .fresh) {ρ : AOpd → AV} {m m' : Sig} {x : AV} (ho : opv call ρ m op = some (x, m')) : Grows m m' := by
 rcases opv_freshTo h ho with rfl | ⟨cs, _, rfl⟩
 ·exact fun d b cs e => ⟨cs, e, .inl rfl⟩
 ·exact Grows.newBox m cs
theorem FreshTo.dead {m m' : Sig} (h : FreshTo m m') {b : Nat} : m'.deadAbove b = m.deadAbove b ∧ m'.cur = m.cur := by
 rcases h with rfl | ⟨cs, hc, rfl⟩
 ·exact ⟨rfl, rfl⟩
 have hcur : (m.newBox cs).2.cur = m.cur := by simp [Sig.cur, Sig.newBox, Sig.addBox, Sig.onRec]
 refine ⟨?_, hcur⟩
 unfold Sig.deadAbove
 rw [hcur]
 simp only [Sig.newBox, Sig.addBox, Sig.onRec, modify_get, if_true]
 cases m.acts[m.cur]? with
 | none => rfl
 | some r =>
  simp only [Option.map_some, List.drop_append, List.any_append]
  have : ((List.drop (b + 1 - r.boxes.length) [cs]).any List.isEmpty) = false := by
   cases b + 1 - r.boxes.length with
   | zero => cases cs with
    | nil => exact absurd rfl hc
    | cons => rfl
   | succ k => simp
  rw [this, Bool.or_false]
theorem FreshTo.box {m m' : Sig} (h : FreshTo m m') {d b : Nat} (hb : d = m.cur → m.deadAbove b = true) : m'.box d b = m.box d b := by
 rcases h with rfl | ⟨cs, hc, rfl⟩
 ·rfl
 simp only [Sig.box, Sig.newBox, Sig.addBox, Sig.onRec, modify_get]
 by_cases hd : m.cur = d
 ·rw [if_pos hd]
  have hb := hb hd.symm
  unfold Sig.deadAbove at hb
  rw [hd] at hb
  cases hq : m.acts[d]? with
  | none => rfl
  | some r =>
   rw [hq] at hb
   simp only [Option.map_some, Option.bind_some]
   have hlt : b < r.boxes.length := by
    simp only [List.any_eq_true] at hb
    obtain ⟨x, hx, _⟩ := hb
    have := List.length_pos_of_mem hx
    rw [List.length_drop] at this
    omega
   exact List.getElem?_append_left hlt
 ·rw [if_neg hd]
theorem FreshTo.loadd {m m' : Sig} (h : FreshTo m m') (agg : Bool) (n : Nat) (x : AV) : loaddOp m' agg n x = loaddOp m agg n x := by
 unfold loaddOp
 split
 ·rename_i d b off
  obtain ⟨h1, h2⟩ := h.dead (b := b)
  rw [h1, h2]
  split
  ·rfl
  ·rename_i hn
   simp only [Sig.load, Sig.row]
   rw [h.box (fun e => by cases hq : m.deadAbove b with | true => rfl | false => exact absurd ⟨e, hq⟩ hn)]
 ·rename_i hx
  simp only [Sig.load]
  cases x <;> first | rfl | exact (hx _ _ _ rfl).elim
theorem opv_loadd {call : CallF} {op : AOp} (h : classOf op = .loadd) {ρ : AOpd → AV} {m m' : Sig} (hs : FreshTo m m') : ∃ r : Option AV, opv call ρ m op = r.map (·, m) ∧ opv call ρ m' op = r.map (·, m') := by
 cases op <;> simp only [classOf] at h <;> first | (cases h; done) | (split at h <;> cases h; done) | skip
 case loadd agg n x => exact ⟨loaddOp m agg n (ρ x), rfl, by simp only [opv]; rw [hs.loadd]⟩
theorem opv_slot {call : CallF} {op : AOp} {back : Nat} (h : classOf op = .slot back) : ∃ zs, ∀ ρ m, opv call ρ m op = slotOp m back zs := by
 cases op <;> simp only [classOf] at h <;> first | (cases h; done) | (split at h <;> cases h; done) | skip
 case slot back zs => injection h with h; subst h; exact ⟨zs, fun _ _ => rfl⟩
theorem opv_fill {call : CallF} {op : AOp} {back : Nat} (h : classOf op = .fill back) {ρ : AOpd → AV} {m m' : Sig} {v : AV} (ho : opv call ρ m op = some (v, m')) : ∃ cs, m' = m.setBox m.cur (m.nbox m.cur - back) cs := by
 cases op <;> simp only [classOf] at h <;> first | (cases h; done) | (split at h <;> cases h; done) | skip
 case fill b n x y =>
  injection h with h
  subst h
  simp only [opv] at ho
  obtain ⟨m1, hm, ho⟩ := Option.map_eq_some_iff.1 ho
  injection ho with _ ho
  subst ho
  unfold fillOp at hm
  split at hm
  ·split at hm
   ·rename_i hc
    unfold Sig.store at hm
    simp only [hc.1, if_true] at hm
    split at hm
    ·split at hm
     ·cases hm
     ·split at hm
      ·injection hm with hm
       rw [hc.2.1] at hm
       exact ⟨_, hm.symm⟩
      ·cases hm
    ·cases hm
   ·cases hm
  ·cases hm
theorem opv_loadr {call : CallF} {op : AOp} {res back : Nat} (h : classOf op = .loadr res) (hb : back ≤ res) {ρ : AOpd → AV} {m : Sig} (cs : List AV) :
  ∃ r : Option AV, opv call ρ m op = r.map (·, m) ∧ opv call ρ (m.setBox m.cur (m.nbox m.cur - back) cs) op = r.map (·, m.setBox m.cur (m.nbox m.cur - back) cs) := by
 cases op <;> simp only [classOf] at h <;> first | (cases h; done) | (split at h <;> cases h; done) | skip
 case loadr res' agg n x =>
  injection h with h
  subst h
  refine ⟨loadrOp m res' agg n (ρ x), rfl, ?_⟩
  simp only [opv]
  congr 1
  unfold loadrOp
  split
  ·rename_i d b off
   simp only [cur_setBox, nbox_setBox]
   split
   ·rfl
   ·rename_i hn
    simp only [Sig.load, Sig.row]
    rw [box_setBox, if_neg (fun e => hn ⟨e.1.symm, by have := e.2; omega⟩)]
  ·rename_i hx
   simp only [Sig.load]
   congr 1
   generalize ρ x = q at hx
   cases q <;> first | rfl | exact (hx _ _ _ rfl).elim
theorem part_grows {agg : Bool} {n : Nat} {cs cs' : List AV} {off : Nat} {v : AV} (hc : cs' = cs ∨ cs = []) (h : part agg n cs off = some v) : part agg n cs' off = some v := by
 rcases hc with rfl | rfl
 ·exact h
 ·unfold part at h ⊢
  split at h
  ·rename_i ha
   split at h
   ·rename_i hle
    simp only [List.length_nil] at hle
    have h0 : off = 0 := by omega
    have h1 : n = 0 := by omega
    subst h0 h1
    rw [if_pos ha, if_pos (by omega)]
    simpa using h
   ·cases h
  ·simp at h
theorem Grows.load {m m' : Sig} (h : Grows m m') {agg : Bool} {n : Nat} {x v : AV} (hl : m.load agg n x = some v) : m'.load agg n x = some v := by
  unfold Sig.load at hl ⊢
  obtain ⟨p, hp, hl⟩ := Option.bind_eq_some_iff.1 hl
  have : ∃ cs', m'.row x = some (cs', p.2) ∧ (cs' = p.1 ∨ p.1 = []) := by
    cases x <;> first
      | exact ⟨p.1, hp, .inl rfl⟩
      | (simp only [Sig.row] at hp ⊢
         obtain ⟨cs, hcs, rfl⟩ := Option.map_eq_some_iff.1 hp
         obtain ⟨cs', e1, e2⟩ := h _ _ _ hcs
         exact ⟨cs', by rw [e1]; rfl, e2⟩)
  obtain ⟨cs', e1, e2⟩ := this
  rw [e1]
  exact part_grows e2 hl
theorem Grows.loadq {m m' : Sig} (h : Grows m m') {agg : Bool} {n off : Nat} {x y v : AV} (hl : loadqOp m agg n x off y = some v) : loadqOp m' agg n x off y = some v := by
 unfold loadqOp at hl ⊢
 split at hl
 ·exact h.load hl
 ·split at hl
  ·rename_i hc
   rw [if_pos hc]
   exact h.load hl
  ·cases hl
 ·cases hl
theorem Grows.mapHas {m m' : Sig} (h : Grows m m') {x k v : AV} (hl : mapHasOp m x k = some v) : mapHasOp m' x k = some v := by
 unfold mapHasOp at hl ⊢
 split at hl
 case h_2 => cases hl
 rename_i d b key
 obtain ⟨ks, hks, rfl⟩ := Option.map_eq_some_iff.1 hl
 unfold Sig.mpKeys at hks ⊢
 split at hks
 case h_2 => cases hks
 rename_i ks' e
 injection hks with hks
 subst hks
 obtain ⟨cs', e1, e2⟩ := h _ _ _ e
 rcases e2 with rfl | e2
 ·rw [e1]; rfl
 ·cases e2
theorem opv_load_grows {call : CallF} {op : AOp} (h : classOf op = .load) {ρ : AOpd → AV} {m m1 : Sig} {v : AV} (ho : opv call ρ m op = some (v, m1)) : m1 = m ∧ ∀ m', Grows m m' → opv call ρ m' op = some (v, m') := by
 cases op <;> simp only [classOf] at h <;> first | (cases h; done) | (split at h <;> cases h; done) | skip
 case load agg n x =>
  simp only [opv] at ho ⊢
  obtain ⟨q1, q2⟩ := map_pair ho
  simp only at q1 q2
  exact ⟨by first | exact q2 | exact q2.symm, fun m' hg => by rw [hg.load q1]; rfl⟩
 case mapHas x k =>
  simp only [opv] at ho ⊢
  obtain ⟨q1, q2⟩ := map_pair ho
  simp only at q1 q2
  exact ⟨by first | exact q2 | exact q2.symm, fun m' hg => by rw [hg.mapHas q1]; rfl⟩
 case loadq agg n x off t =>
  simp only [opv] at ho ⊢
  obtain ⟨q1, q2⟩ := map_pair ho
  simp only at q1 q2
  exact ⟨by first | exact q2 | exact q2.symm, fun m' hg => by rw [hg.loadq q1]; rfl⟩
end
end Go.Ax
