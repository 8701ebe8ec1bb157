/-
  One operation of a region, calls with it.
-/
import Derived.Test.YtfmojojicndbcaaAxO
import Derived.RangeFuncOwn
namespace Go.Ax
open Go.RowKit

/-- The fence of an activation (none), of a round of the loop whose record is block r (some r). -/
def fenceOf : Option Nat → Fence
  | none => Fence.wide
  | some r => Fence.wide.inRound r

theorem fenceOf_fn (rd : Option Nat) (f : FuncId) : (fenceOf rd).fn f := by cases rd <;> exact trivial
theorem fenceOf_depth (rd : Option Nat) : (fenceOf rd).depth = none := by cases rd <;> rfl
theorem fenceOf_round (rd : Option Nat) : (fenceOf rd).round = rd := by cases rd <;> rfl
theorem fenceOf_calls (rd : Option Nat) {n : Nat} {P : Program} {f : FuncId} {args : Array Value} {w : World} {R : Ending → World → Prop} (h : Calls P f args w R) : CallsIn (fenceOf rd) n P f args w R := by
  have := (callsIn_wide (n := n)).2 h
  cases rd
  · exact this
  · exact this
theorem fenceOf_round_in (rd : Option Nat) {n : Nat} {P : Program} {l : Nat} {f : FuncId} {tmps : Array Value} {assign body : Code} {w : World} {R : Ending → World → Prop} (h : RoundIn Fence.wide n P l f tmps assign body w R) :
    RoundIn (fenceOf rd) n P l f tmps assign body w R := by
  cases rd
  · exact h
  · exact h

/-- A function that a call enters. -/
def HasBody (P : Program) (f : FuncId) : Prop := ∃ fn c, P.funcs[f]? = some fn ∧ fn.body = some c ∧ (fn.name == "runtime.NumGoroutine") = false

theorem HasBody.run {P : Program} {f : FuncId} (h : HasBody P f) (args : Array Value) (w : World) : (callFunc f args).run P w = .ok (.enter f args) w := by
  obtain ⟨fn, c, h1, h2, h3⟩ := h
  simp only [callFunc, Sem.run_bind, run_program, Result.andThen_ok, h1, h3, h2, Option.isNone_some, Bool.false_eq_true, if_false]
  rfl

section
variable {P : Program} {B0 : Nat} {w0 : World}

/-- What is behind a call. -/
def CallTo (P : Program) (B0 : Nat) (w0 : World) (G : Ghost) (k nl : Nat) (s s' : Sig) (w' : World) (x : AV) (x' : Value) : Prop :=
  ∃ G', SRel P B0 w0 G' s' w' ∧ s'.acts.length = s.acts.length ∧ s'.loops.length = s.loops.length ∧ GLe (k + 1) s.loops.length G G' ∧ Rel G' k nl x x'

structure CallSound (P : Program) (B0 : Nat) (w0 : World) (call : CallF) : Prop where
  fn : ∀ (G : Ghost) (k nl : Nat) (s : Sig) (w : World) (f : FuncId) (args : List AV) (xs : Array Value) (res : AV) (s' : Sig), SRel P B0 w0 G s w → s.acts.length ≤ k + 1 → k ≤ s.acts.length → nl ≤ s.loops.length → xs.size = args.length →
    (∀ i (hi : i < args.length), Rel G k nl args[i] (xs.getD i Go.undef)) → call (.fn f) args s = some (res, s') →
    HasBody P f ∧ Calls P f xs w fun e w' => ∃ z, e = .returned z ∧ CallTo P B0 w0 G k nl s s' w' res z
  yield : ∀ (G : Ghost) (k nl : Nat) (s : Sig) (w : World) (l r : Nat) (args : List AV) (xs : Array Value) (res : AV) (s' : Sig), SRel P B0 w0 G s w → s.acts.length ≤ k + 1 → k ≤ s.acts.length → nl ≤ s.loops.length → l < nl → G.loops[l]? = some r → xs.size = args.length →
    (∀ i (hi : i < args.length), Rel G k nl args[i] (xs.getD i Go.undef)) → call (.yield l) args s = some (res, s') →
    ∃ rc : Loop, w.heap[r]? = some (.loop rc) ∧ xs.size = rc.params.size ∧ ∀ n, RoundIn Fence.wide n P r rc.fn ((rc.params.zip xs).foldl (fun tmps (t, a) => tmps.setIfInBounds t a) rc.tmps) rc.assign rc.body w
      fun e w' => ∃ z, e = .returned z ∧ CallTo P B0 w0 G k nl s s' w' res z

/-- What may not be written to is as it was. -/
structure Fr (s s' : Sig) : Prop where
  alen : s'.acts.length = s.acts.length
  llen : s'.loops.length = s.loops.length
  ro : s'.ro = s.ro
  lro : s'.lro = s.lro
  acts : ∀ d, d < s.ro → s'.acts[d]? = s.acts[d]?
  loops : ∀ l, l < s.lro → s'.loops[l]? = s.loops[l]?

def RoOk (call : CallF) : Prop := ∀ t args s x s', s.ro ≤ s.acts.length → s.lro ≤ s.loops.length → call t args s = some (x, s') → Fr s s'

theorem SRel.of_eq {G : Ghost} {s s' : Sig} {w : World} (h : SRel P B0 w0 G s w) (ha : s'.acts = s.acts) (hl : s'.loops = s.loops) : SRel P B0 w0 G s' w := by
  obtain ⟨h1, h2, h3, h4, h5, h6, h7, h8, h9, h10⟩ := h
  exact ⟨h1, by rw [ha]; exact h2, by rw [hl]; exact h3, by rw [ha]; exact h4, by rw [hl]; exact h5, by rw [hl]; exact h6, h7, h8, h9, h10⟩

/-- Which target a call has, in the executor and in the model. -/
inductive TargetRel (G : Ghost) (nl : Nat) : Target → (Array Value → Sem Next) → Prop
  | fn (f : FuncId) : TargetRel G nl (.fn f) (callFunc f)
  | yield {l r : Nat} (hl : l < nl) (h : G.loops[l]? = some r) : TargetRel G nl (.yield l) (Instr.yield r)

variable {G : Ghost} {k nl : Nat} {w : World} {s s' : Sig}

theorem doCall_cases {call : CallF} (hro : RoOk call) {ro : Bool} {t : Target} {args : List AV} {x : AV} (h : doCall call ro s t args = some (x, s')) :
    ∃ s1 s2, s1.acts = s.acts ∧ s1.loops = s.loops ∧ call t args s1 = some (x, s2) ∧ s'.acts = s2.acts ∧ s'.loops = s2.loops := by
  unfold doCall at h
  split at h
  · obtain ⟨p, hp, h⟩ := Option.map_eq_some_iff.1 h
    obtain ⟨y, s2⟩ := p
    injection h with h1 h2
    subst h1 h2
    obtain ⟨r1, r2, _, _, r3, r4⟩ := hro _ _ _ _ _ (Nat.le_refl _) (Nat.le_refl _) hp
    refine ⟨{ s with ro := s.acts.length, lro := s.loops.length }, s2, rfl, rfl, hp, ?_, ?_⟩
    · refine List.ext_getElem r1.symm fun d h1 h2 => ?_
      have := r3 d h1
      simp only at this
      rw [List.getElem?_eq_getElem h1, List.getElem?_eq_getElem h2] at this
      injection this with this
      exact this.symm
    · refine List.ext_getElem r2.symm fun d h1 h2 => ?_
      have := r4 d h1
      simp only at this
      rw [List.getElem?_eq_getElem h1, List.getElem?_eq_getElem h2] at this
      injection this with this
      exact this.symm
  · exact ⟨s, s', rfl, rfl, h, rfl, rfl⟩

theorem CallTo.step {s1 s2 : Sig} {w' : World} {x : AV} {z : Value} (h : At P B0 w0 G k nl s w) (e1 : s1.acts = s.acts) (e2 : s1.loops = s.loops) (e3 : s'.acts = s2.acts) (e4 : s'.loops = s2.loops)
    (hc : CallTo P B0 w0 G k nl s1 s2 w' x z) : StepTo P B0 w0 G k nl s s' w' x z := by
  obtain ⟨G', h1, h2, h3, h4, h5⟩ := hc
  rw [e2] at h4 h3
  rw [e1] at h2
  have hs := h1.of_eq e3 e4
  exact ⟨G', h.to hs (h4.less (by omega) h.nle) (by rw [e3, h2]), h4, by rw [e4, h3], h5⟩

/-- What is behind an operation: the model's activation with it. -/
def PostTo (P : Program) (B0 : Nat) (w0 : World) (G : Ghost) (k nl : Nat) (s : Sig) (a : Act) (st' : St) (a' : Act) (w' : World) : Prop :=
  ∃ G', At P B0 w0 G' k nl st'.sig w' ∧ GLe (k + 1) s.loops.length G G' ∧ st'.sig.loops.length = s.loops.length ∧ TmpsRel G' k nl st'.tmps a' ∧ a'.tmps.size = a.tmps.size ∧ a'.defers = a.defers

theorem TmpsRel.put {ρ : Nat → AV} {a : Act} (h : TmpsRel G k nl ρ a) {dst : Option Nat} (hd : ∀ t, dst = some t → t < a.tmps.size) {x : AV} {v : Value} (hx : Rel G k nl x v) : TmpsRel G k nl (putT ρ dst x) (a.put dst v) := by
  cases dst with
  | none => exact h
  | some t =>
    intro u
    have ht := hd t rfl
    simp only [putT, Act.put, Ax.put]
    by_cases hu : u = t
    · subst hu
      rw [if_pos rfl]
      have : (a.tmps.setIfInBounds u v).getD u Go.undef = v := by simp [Array.getD, ht]
      rw [this]
      exact hx
    · rw [if_neg hu]
      have : (a.tmps.setIfInBounds t v).getD u Go.undef = a.tmps.getD u Go.undef := by
        by_cases hlt : u < a.tmps.size
        · simp [Array.getD, hlt, Ne.symm hu]
        · simp [Array.getD, hlt]
      rw [this]
      exact h u

theorem TmpsRel.mono {G' : Ghost} {ρ : Nat → AV} {a : Act} (h : TmpsRel G k nl ρ a) (hle : GLe k nl G G') : TmpsRel G' k nl ρ a := fun t => (h t).mono hle (Nat.le_refl _) (Nat.le_refl _)

theorem put_size (a : Act) (dst : Option Nat) (v : Value) : (a.put dst v).tmps.size = a.tmps.size := by
  cases dst with
  | none => rfl
  | some t => simp [Act.put]

theorem put_defers (a : Act) (dst : Option Nat) (v : Value) : (a.put dst v).defers = a.defers := by
  cases dst <;> rfl

theorem StepTo.post {a : Act} {ρ : Nat → AV} {dst : Option Nat} {w' : World} {x : AV} {v : Value} (h : At P B0 w0 G k nl s w) (hR : TmpsRel G k nl ρ a) (hd : ∀ t, dst = some t → t < a.tmps.size) (hs : StepTo P B0 w0 G k nl s s' w' x v) :
    PostTo P B0 w0 G k nl s a ⟨putT ρ dst x, s'⟩ (a.put dst v) w' := by
  obtain ⟨G', h1, h2, h3, h4⟩ := hs
  exact ⟨G', h1, h2, h3, (hR.mono (h2.less (by omega) h.nle)).put hd h4, put_size _ _ _, put_defers _ _ _⟩

/-- Is a truth value. -/
theorem Rel.bool_iff {x : AV} {b : Bool} (h : Rel G k nl x (.bool b)) : x = .v (.bool b) := by
  cases h with
  | cl h => cases h with | v h => rfl

theorem wanted_eq {all : List Oper} {o : Oper} {g : Option (Nat × Bool)} {ρ : Nat → AV} {a : Act} (hg : compGuard all o.guard = some g) (hR : TmpsRel G k nl ρ a) : Region.wanted o (yielded all.toArray a.tmps) = wantedT ρ g := by
  unfold Region.wanted
  cases hgo : o.guard with
  | none =>
    rw [hgo] at hg
    simp only [compGuard, Option.some.injEq] at hg
    subst hg
    rfl
  | some p =>
    obtain ⟨j, b⟩ := p
    rw [hgo] at hg
    simp only [compGuard] at hg
    split at hg
    · rename_i t ht
      injection hg with hg
      subst hg
      simp only [wantedT, yielded]
      have e : (all.toArray[j]?).bind (·.dst) = some t := by simpa using ht
      rw [e]
      simp only [Option.bind_some]
      have hr := hR t
      by_cases hb : ∃ c, a.tmps.getD t Go.undef = .bool c
      · obtain ⟨c, hc⟩ := hb
        rw [hc] at hr
        rw [hr.bool_iff]
        have : a.tmps[t]? = some (.bool c) := by
          by_cases hlt : t < a.tmps.size
          · have : a.tmps.getD t Go.undef = a.tmps[t] := by simp [Array.getD, hlt]
            rw [this] at hc
            rw [Array.getElem?_eq_getElem hlt, hc]
          · have : a.tmps.getD t Go.undef = Go.undef := by simp [Array.getD, hlt]
            rw [this] at hc
            cases hc
        rw [this]
        simp [wantedV]
      · have h1 : (match a.tmps[t]? with | some (.bool b) => some b | _ => none) = (none : Option Bool) := by
          split
          · rename_i b hb'
            exact absurd ⟨b, by
              obtain ⟨hlt, hb''⟩ := Array.getElem?_eq_some_iff.1 hb'
              simp [Array.getD, hlt, hb'']⟩ hb
          · rfl
        have h2 : wantedV b (ρ t) = false := by
          unfold wantedV
          split
          · rename_i c hc
            rw [hc] at hr
            exact absurd ⟨c, hr.inv_v⟩ hb
          · rfl
        rw [h2]
        first
          | (rw [h1]; rfl)
          | (split
             · rename_i c hc
               exact absurd ⟨c, by
                 obtain ⟨hlt, hb''⟩ := Array.getElem?_eq_some_iff.1 hc
                 simp [Array.getD, hlt, hb'']⟩ hb
             · rfl)
    · cases hg

/-- A call that the model makes. -/
theorem targets_sound {call : CallF} (hcall : CallSound P B0 w0 call) (hro : RoOk call) {rd : Option Nat} {n : Nat} {ro : Bool} {t : Target} {tv : Array Value → Sem Next} {args : List AV} {xs : Array Value} {x : AV} (h : At P B0 w0 G k nl s w)
    (ht : TargetRel G nl t tv) (hl : xs.size = args.length) (hR : ∀ i (hi : i < args.length), Rel G k nl args[i] (xs.getD i Go.undef)) (hc : doCall call ro s t args = some (x, s'))
    {o : Oper} {a : Act} {K : Act → World → Prop} {Q : Exit → Act → World → Prop} (hK : ∀ z w', StepTo P B0 w0 G k nl s s' w' x z → K (a.put o.dst z) w') :
    o.uponIn (fenceOf rd) n P a K Q ((tv xs).run P w) := by
  obtain ⟨s1, s2, e1, e2, hc, e3, e4⟩ := doCall_cases hro hc
  have hs1 : SRel P B0 w0 G s1 w := h.rel.of_eq e1 e2
  have hdep : (fenceOf rd).depth.isSome = true → 1 ≤ n := by rw [fenceOf_depth]; intro h; cases h
  cases ht with
  | fn f =>
    obtain ⟨hb, hcs⟩ := hcall.fn G k nl s1 w f args xs x s2 hs1 (by rw [e1, h.len]; exact Nat.le_refl _) (by rw [e1, h.len]; exact Nat.le_succ _) (by rw [e2]; exact h.nle) hl hR hc
    rw [hb.run]
    simp only [Oper.uponIn_enter]
    refine ⟨hdep, CallsIn.mono (fenceOf_calls rd hcs) fun e w' he => ?_⟩
    obtain ⟨z, rfl, hz⟩ := he
    exact hK z w' (hz.step h e1 e2 e3 e4)
  | @yield l r hl' hr =>
    obtain ⟨rc, hrc, hsz, hround⟩ := hcall.yield G k nl s1 w l r args xs x s2 hs1 (by rw [e1, h.len]; exact Nat.le_refl _) (by rw [e1, h.len]; exact Nat.le_succ _) (by rw [e2]; exact h.nle) hl' hr hl hR hc
    rw [run_yield hrc hsz]
    simp only [Oper.uponIn_round]
    refine ⟨hdep, RoundIn.mono (fenceOf_round_in rd (hround (n - 1))) fun e w' he => ?_⟩
    obtain ⟨z, rfl, hz⟩ := he
    exact hK z w' (hz.step h e1 e2 e3 e4)

/-! ### One operation -/

theorem ofValue_run {f : Value} {fn : Fn} {first caps : Array Value} (hf : f = .func fn first caps) (args : Array Value) (w : World) : (Deferred.ofValue f args).run P w = .ok { target := .fn fn caps, args := first ++ args } w := by
  subst hf
  rfl

theorem getD_append (xs ys : Array Value) (i : Nat) : (xs ++ ys).getD i Go.undef = if i < xs.size then xs.getD i Go.undef else ys.getD (i - xs.size) Go.undef := by
  by_cases h1 : i < xs.size
  · rw [if_pos h1]
    have : i < (xs ++ ys).size := by simp; omega
    simp [Array.getD, h1, Array.getElem_append_left, this]
    omega
  · rw [if_neg h1]
    by_cases h2 : i - xs.size < ys.size
    · have : i < (xs ++ ys).size := by simp; omega
      have h3 : i < xs.size + ys.size := by omega
      simp [Array.getD, h2, h3, Array.getElem_append_right (Nat.le_of_not_lt h1)]
    · have : ¬ i < xs.size + ys.size := by omega
      simp [Array.getD, h2, this]

theorem callv_sound {call : CallF} (hcall : CallSound P B0 w0 call) (hro : RoOk call) {rd : Option Nat} {n : Nat} {ro : Bool} {f : AV} {fv : Value} {args : List AV} {xs : Array Value} {x : AV} (h : At P B0 w0 G k nl s w)
    (hf : Rel G k nl f fv) (hl : xs.size = args.length) (hR : ∀ i (hi : i < args.length), Rel G k nl args[i] (xs.getD i Go.undef)) (hc : callvOp call ro s f args = some (x, s'))
    {o : Oper} {a : Act} {K : Act → World → Prop} {Q : Exit → Act → World → Prop} (hK : ∀ z w', StepTo P B0 w0 G k nl s s' w' x z → K (a.put o.dst z) w') :
    o.uponIn (fenceOf rd) n P a K Q ((do let d ← Deferred.ofValue fv xs; invoke d.target d.args : Sem Next).run P w) := by
  unfold callvOp at hc
  split at hc
  · rename_i g first caps
    obtain ⟨a1, a2, rfl, l1, l2, r1, r2⟩ := hf.inv_fn
    have hrun : (do let d ← Deferred.ofValue (.func (.func g) a1 a2) xs; invoke d.target d.args : Sem Next).run P w = (callFunc g (a1 ++ xs ++ a2)).run P w := by
      simp only [Sem.run_bind, ofValue_run (P := P) rfl, Result.andThen_ok]
      rfl
    rw [hrun]
    refine targets_sound hcall hro h (.fn g) (by simp [l1, l2, hl]) (fun i hi => ?_) hc hK
    rw [getD_append, getD_append]
    simp only [List.length_append] at hi
    by_cases h1 : i < first.length
    · rw [if_pos (by simp; omega), if_pos (by omega)]
      have e : (first ++ args ++ caps)[i] = first[i] := by
        rw [List.getElem_append_left (by simp; omega), List.getElem_append_left h1]
      rw [e]
      exact .cl (r1 i h1)
    · by_cases h2 : i < first.length + args.length
      · rw [if_pos (by simp; omega), if_neg (by omega)]
        have e : (first ++ args ++ caps)[i] = args[i - first.length]'(by omega) := by
          rw [List.getElem_append_left (by simp; omega), List.getElem_append_right (by omega)]
        rw [e, l1]
        exact hR _ _
      · rw [if_neg (by simp; omega)]
        have e : (first ++ args ++ caps)[i] = caps[i - (first.length + args.length)]'(by omega) := by
          rw [List.getElem_append_right (by simp; omega)]
          simp
        rw [e]
        have : (a1 ++ xs).size = first.length + args.length := by simp [l1, hl]
        rw [this]
        exact r2 _ _
  · rename_i l
    obtain ⟨r, rfl, hl', hr⟩ := hf.inv_yield
    have hrun : (do let d ← Deferred.ofValue (.func (.yield r) #[] #[]) xs; invoke d.target d.args : Sem Next).run P w = (Instr.yield r xs).run P w := by
      simp only [Sem.run_bind, ofValue_run (P := P) rfl, Result.andThen_ok]
      simp [invoke]
    rw [hrun]
    exact targets_sound hcall hro h (.yield hl' hr) hl hR hc hK
  · cases hc

theorem compCall_cases {ro : Bool} {c : Call} {aop : AOp} (h : compCall P ro c = some aop) (hn : isCallA aop = true) : ∃ as f, mapO compOpd c.args.toList = some as ∧ c.callee = .value f ∧
    ((∃ g, f = .func g ∧ aop = .call ro g as) ∨ ∃ y, compOpd f = some y ∧ aop = .callv ro y as) := by
  unfold compCall at h
  split at h
  · cases h
  rename_i as has
  split at h
  · rename_i g hg
    injection h with h
    exact ⟨as, _, has, hg, .inl ⟨g, rfl, h.symm⟩⟩
  · rename_i f hf hcal
    obtain ⟨y, hy, rfl⟩ := Option.map_eq_some_iff.1 h
    exact ⟨as, _, has, hcal, .inr ⟨y, hy, rfl⟩⟩
  · cases h
  · split at h
    · split at h
      · split at h
        · split at h
          · injection h with h; subst h; simp [isCallA] at hn
          · cases h
        · cases h
      · cases h
    · split at h <;> first | (cases h; done) | (injection h with h; subst h; simp [isCallA] at hn)
    · injection h with h; subst h; simp [isCallA] at hn
    · injection h with h; subst h; simp [isCallA] at hn
    · cases h

theorem compOp_call {ro : Bool} {op : Op} {aop : AOp} (h : compOp P ro op = some aop) (hn : isCallA aop = true) : ∃ c, op = .call c ∧ compCall P ro c = some aop := by
  cases op with
  | call c => exact ⟨c, rfl, h⟩
  | move x => obtain ⟨y, _, rfl⟩ := Option.map_eq_some_iff.1 h; simp [isCallA] at hn
  | assign x => obtain ⟨y, _, rfl⟩ := Option.map_eq_some_iff.1 h; simp [isCallA] at hn
  | alloc x => obtain ⟨y, _, rfl⟩ := Option.map_eq_some_iff.1 h; simp [isCallA] at hn
  | nilCheck x => obtain ⟨y, _, rfl⟩ := Option.map_eq_some_iff.1 h; simp [isCallA] at hn
  | unOp _ _ x => obtain ⟨y, _, rfl⟩ := Option.map_eq_some_iff.1 h; simp [isCallA] at hn
  | extract x _ => obtain ⟨y, _, rfl⟩ := Option.map_eq_some_iff.1 h; simp [isCallA] at hn
  | binOp op t x y yt =>
    obtain ⟨_, _, _, _, hq⟩ := compBin_cases h
    rcases hq with rfl | ⟨_, _, _, _, _, _, _, rfl⟩ <;> simp [isCallA] at hn
  | convert src dst x =>
    simp only [compOp] at h
    obtain ⟨y, _, h⟩ := Option.bind_eq_some_iff.1 h
    unfold compConv at h
    repeat' split at h
    all_goals first | (cases h; done) | (injection h with h; subst h; simp [isCallA] at hn)
  | makeFunc fn a b =>
    cases fn <;> simp only [compOp] at h <;> first | (cases h; done) | skip
    split at h
    · injection h with h; subst h; simp [isCallA] at hn
    · cases h
  | _ =>
    simp only [compOp] at h
    first
      | (cases h; done)
      | (repeat' split at h
         all_goals first
          | (cases h; done)
          | (injection h with h; subst h; simp [isCallA] at hn; done)
          | (obtain ⟨_, _, rfl⟩ := Option.map_eq_some_iff.1 h; simp [isCallA] at hn))

/-- The operation's own word. -/
def stepA (call : CallF) (o : AOper) (st : St) : Option St :=
  if wantedT st.tmps o.guard then
    match opv call (evalT st.tmps) st.sig o.op with
    | some (x, m) => some ⟨putT st.tmps o.dst x, m⟩
    | none => none
  else some ⟨putT st.tmps o.dst AV.undef, st.sig⟩

theorem ops_cons (call : CallF) (o : AOper) (r : List AOper) (st : St) : ops call (o :: r) st = (stepA call o st).bind (ops call r) := by
  simp only [ops, stepA]
  split
  · split
    · rename_i h
      simp [h]
    · rename_i h
      simp [h]
  · rfl

theorem op_step {call : CallF} (hcall : CallSound P B0 w0 call) (hro : RoOk call) {rd : Option Nat} {n : Nat} {ro : Bool} {all : List Oper} {o : Oper} {ao : AOper} {st st' : St} {a : Act} (h : At P B0 w0 G k nl st.sig w) (hR : TmpsRel G k nl st.tmps a)
    (hg : compGuard all o.guard = some ao.guard) (hop : compOp P ro o.op = some ao.op) (hdst : ao.dst = o.dst) (hd : ∀ t, ao.dst = some t → t < a.tmps.size) (hs : stepA call ao st = some st')
    {K : Act → World → Prop} {Q : Exit → Act → World → Prop} (hK : ∀ a' w', PostTo P B0 w0 G k nl st.sig a st' a' w' → K a' w') :
    if Region.wanted o (yielded all.toArray a.tmps) then o.wpIn (fenceOf rd) n P a w K Q else (∀ f, o.about P w a.eval = some f → (fenceOf rd).fn f) ∧ K (a.put o.dst Go.undef) w := by
  rw [wanted_eq hg hR]
  unfold stepA at hs
  cases hw : wantedT st.tmps ao.guard with
  | false =>
    rw [hw] at hs
    simp only [Bool.false_eq_true, if_false, Option.some.injEq] at hs ⊢
    subst hs
    refine ⟨fun f _ => fenceOf_fn rd f, hK _ _ ?_⟩
    rw [← hdst]
    exact (StepTo.same h .undef).post h hR hd
  | true =>
    rw [hw] at hs
    simp only [if_true] at hs ⊢
    split at hs
    case h_2 => cases hs
    rename_i x m hv
    injection hs with hs
    subst hs
    refine ⟨fun f _ => fenceOf_fn rd f, ?_⟩
    cases hcl : isCallA ao.op with
    | false =>
      have hnd : ∀ c, o.op ≠ .defer c := fun c e => by rw [e] at hop; simp [compOp] at hop
      rw [Oper.semAt_eq _ _ _ hnd]
      obtain ⟨w', hq⟩ := opv_sound h hR hop hcl hv
      rcases hq with ⟨z, h1, h2⟩ | ⟨h1, h2⟩
      · rw [h1, Oper.uponIn_value]
        refine hK _ _ ?_
        rw [← hdst]
        exact h2.post h hR hd
      · rw [h1, Oper.uponIn_skip]
        refine hK _ _ ?_
        rw [← hdst]
        exact h2.post h hR hd
    | true =>
      obtain ⟨c, hc, hcc⟩ := compOp_call hop hcl
      obtain ⟨as, f, has, hcal, hq⟩ := compCall_cases hcc hcl
      have hargs := args_rel has hR
      have hsem : o.semAt (fenceOf rd).round a.eval = (do let d ← Deferred.ofValue (a.eval f) (c.args.map a.eval); invoke d.target d.args) := by
        rw [Oper.semAt_eq _ _ _ (fun c' e => by rw [hc] at e; cases e)]
        unfold execOp
        rw [hc]
        simp only [resolve, hcal]
      rw [hsem]
      have hK' : ∀ z w', StepTo P B0 w0 G k nl st.sig m w' x z → K (a.put o.dst z) w' := fun z w' hst => by
        refine hK _ _ ?_
        rw [← hdst]
        exact hst.post h hR hd
      have hargs' : (c.args.map a.eval).size = (as.map (evalT st.tmps)).length ∧ ∀ i (hi : i < (as.map (evalT st.tmps)).length), Rel G k nl (as.map (evalT st.tmps))[i] ((c.args.map a.eval).getD i Go.undef) := by
        simpa using hargs
      rcases hq with ⟨g, rfl, e⟩ | ⟨y, hy, e⟩
      · rw [e] at hv
        simp only [opv] at hv
        have hv' : callvOp call ro st.sig (.fn g [] []) (as.map (evalT st.tmps)) = some (x, m) := by
          simpa [callvOp] using hv
        exact callv_sound hcall hro h (.cl (.fn rfl rfl (fun i hi => absurd hi (Nat.not_lt_zero _)) (fun i hi => absurd hi (Nat.not_lt_zero _)))) hargs'.1 hargs'.2 hv' hK'
      · rw [e] at hv
        exact callv_sound hcall hro h (opd_rel hy hR) hargs'.1 hargs'.2 hv hK'

end
end Go.Ax
