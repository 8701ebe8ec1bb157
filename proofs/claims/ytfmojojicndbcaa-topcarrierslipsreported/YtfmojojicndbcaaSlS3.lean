import Derived.Test.YtfmojojicndbcaaSlS2
namespace Go.Ax.Sx.Sl
open Go.Ax
set_option linter.unusedSimpArgs false
set_option linter.unusedVariables false

section
variable {s : Sig}

/-- the states before all phases, from a state on -/
def trackS (a b c d : Int) : Int → Int → List Int → List (Int × Int)
  | _, _, [] => []
  | p, f, x :: r => (p, f) :: trackS a b c d (p + stepA a b c d f (sgn (x - p))) (stepF a b c d f (sgn (x - p))) r
def trackE (a b c d : Int) : Int → Int → List Int → List Int
  | _, _, [] => []
  | p, f, x :: r => sgn (x - p) :: trackE a b c d (p + stepA a b c d f (sgn (x - p))) (stepF a b c d f (sgn (x - p))) r
def sts (l : List (Int × Int)) : List (List AV) := l.map fun q => [I q.1, I q.2]
theorem sts_len {l : List (Int × Int)} : (sts l).length = l.length := by simp [sts]
theorem sts_app {l r : List (Int × Int)} : sts (l ++ r) = sts l ++ sts r := by simp [sts]
theorem ints_app {l r : List Int} : ints (l ++ r) = ints l ++ ints r := by simp [ints]
theorem trackS_len (a b c d : Int) : ∀ (l : List Int) (p f : Int), (trackS a b c d p f l).length = l.length
  | [], _, _ => rfl
  | x :: r, p, f => by simp [trackS, trackS_len a b c d r]
theorem trackE_len (a b c d : Int) : ∀ (l : List Int) (p f : Int), (trackE a b c d p f l).length = l.length
  | [], _, _ => rfl
  | x :: r, p, f => by simp [trackE, trackE_len a b c d r]

def trkErr (a b c d : Int) (l : List Int) : Int := cond (loopOk a b c d) (cond (decide ((l.length : Int) ≤ 200)) (cond (phOk l) 0 2) 8) 2

def trkRes (a b c d : Int) (l : List Int) : AV :=
  cond (decide (trkErr a b c d l = 0)) (.tuple [accV 2 (sts (trackS a b c d 0 d l)), accV 1 (ints (trackE a b c d 0 d l)), I 0]) (.tuple [.slice .nilS 0 [], .slice .nilS 0 [], I (trkErr a b c d l)])

theorem s13_loop {a b c d : Int} {l : List Int} {o : Own} (hs : Ok s) (hl : loopOk a b c d = true) (hn : l.length ≤ 200) (hp : phOk l = true) :
    ∀ (r : List Int) (k : Nat) (p f : Int) (sx : List (Int × Int)) (ex : List Int) (ρ : Nat → AV) (x8 x9 : AV) (g8 g9 : Option Nat) (junk : List (List AV)) (toks : List (Option Nat)),
    l.drop k = r → k ≤ l.length → sx.length = k → ex.length = k → -2048 ≤ f → f ≤ 2047 → -(300000000 * k : Int) ≤ p → p ≤ 300000000 * k →
    Acc s.acts.length 2 (sts sx) x8 g8 toks → Acc s.acts.length 1 (ints ex) x9 g9 toks → (g8 ≠ g9 ∨ g9 = none) →
    ρ 2 = .ptr s.acts.length 0 0 → ρ 8 = x8 → ρ 9 = x9 → ρ 10 = .ptr s.acts.length 1 0 → ρ 27 = .slice o 1 (ints l) → ρ 28 = I l.length → ρ 29 = I k →
    go AP f13 (.c (.loop b13_l0) :: k13_0) ⟨ρ, s.push ⟨[I a, I b, I c, I d] :: [I p, I f] :: junk, toks⟩⟩ =
      some (.tuple [accV 2 (sts (sx ++ trackS a b c d p f r)), accV 1 (ints (ex ++ trackE a b c d p f r)), I 0], s) := by
  intro r
  induction r with
  | nil =>
    intro k p f sx ex ρ x8 x9 g8 g9 junk toks hr hk e1 e2 hf hf2 hp1 hp2 h8 h9 hne r2 r8 r9 r10 r27 r28 r29
    have e : k = l.length := by
      have := congrArg List.length hr
      simp at this; omega
    subst e
    rw [go_loop]
    simp (maxSteps := 1000000) only [go_sem, b13_l0, b13_r0, r8, r9, r28, r29, ge_dec, h8.leave, h9.leave, Nat.reduceEqDiff, reduceCtorEq, Nat.reduceAdd, Nat.reduceMul, Nat.reduceSub, Int.reduceLT, Int.reduceLE, Int.reduceEq, Int.reduceAdd, Int.reduceSub, Int.reduceNeg, Int.reduceToNat, Int.cast_ofNat_Int, ↓reduceIte]
    simp [trackS, trackE]
  | cons x r ih =>
    intro k p f sx ex ρ x8 x9 g8 g9 junk toks hr hk e1 e2 hf hf2 hp1 hp2 h8 h9 hne r2 r8 r9 r10 r27 r28 r29
    have hlt : k < l.length := by
      have := congrArg List.length hr
      simp at this; omega
    have hx : l[k]? = some x := by
      have := congrArg (·[0]?) hr
      simpa using this
    have hxr : 0 ≤ x ∧ x ≤ 4095 := by
      have h1 : x ∈ l := List.mem_of_getElem? hx
      have h2 : ∀ y ∈ l, wi y 0 4095 = true := by simpa [phOk] using hp
      exact wi_iff.1 (h2 x h1)
    have hix := ix_sl (o := o) (es := 1) (ints_get hx)
    have hb := sgn_bd (x - p)
    have hA := stepA_bd (f := f) (e := sgn (x - p)) hl (by omega) (by omega)
    have hF := stepF_bd (a := a) (b := b) (c := c) (d := d) (f := f) (e := sgn (x - p))
    have e41 : ∀ r, callL AP (.fn 41) [LP a b c d, SP p f, I x] (s.push r) = some (.tuple [SP (p + stepA a b c d f (sgn (x - p))) (stepF a b c d f (sgn (x - p))), I (sgn (x - p))], s.push r) :=
      fun r => s41 (hs.push r) hl hf hf2 (by omega) (by omega) (by omega) (by omega)
    obtain ⟨x8', g8', t1, a1, h8', n8, fr1⟩ := h8.append hs .full (ys := [[I p, I f]]) (by simp) (by rw [sts_len]; simp; omega)
    obtain ⟨h9a, hne1⟩ := fr1 _ _ _ _ h9 (by rcases hne with h | h; exact .inl (fun e => h e.symm); exact .inr h)
    obtain ⟨x9', g9', t2, a2, h9', n9, fr2⟩ := h9a.append hs .full (ys := [[I (sgn (x - p))]]) (by simp) (by rw [ints_len]; simp; omega)
    obtain ⟨h8b, hne2⟩ := fr2 _ _ _ _ h8' (.inl (fun e => hne1 e.symm))
    rw [go_loop]
    simp (maxSteps := 1000000) only [go_sem, b13_l0, b13_r0, r2, r8, r9, r10, r27, r28, r29, lt_dec hlt, hix, e41, a1, a2, hs, wrap_succ hlt (show (l.length : Int) < _ by omega), Nat.reduceEqDiff, reduceCtorEq, Nat.reduceAdd, Nat.reduceMul, Nat.reduceSub, Int.reduceLT, Int.reduceLE, Int.reduceEq, Int.reduceAdd, Int.reduceSub, Int.reduceNeg, Int.reduceToNat, Int.cast_ofNat_Int, ↓reduceIte]
    refine (ih (k + 1) (p + stepA a b c d f (sgn (x - p))) (stepF a b c d f (sgn (x - p))) (sx ++ [(p, f)]) (ex ++ [sgn (x - p)]) _ x8' x9' g8' g9' (junk ++ [[I (p + stepA a b c d f (sgn (x - p))), I (stepF a b c d f (sgn (x - p)))]]) t2
      (by rw [← List.drop_drop, hr]; rfl) (by omega) (by simp [e1]) (by simp [e2]) hF.1 hF.2 (by omega) (by omega) (by rw [sts_app]; exact h8b) (by rw [ints_app]; exact h9') (.inl hne2)
      ?_ ?_ ?_ ?_ ?_ ?_ ?_).trans ?_
    · exact r2
    · rfl
    · rfl
    · exact r10
    · exact r27
    · exact r28
    · rfl
    · simp [trackS, trackE]

theorem s13 {a b c d : Int} {l : List Int} {o : Own} (hs : Ok s) (hl : (l.length : Int) < 9223372036854775808) : callL AP (.fn 13) [LP a b c d, .slice o 1 (ints l)] s = some (trkRes a b c d l, s) := by
  rw [callL_go (show AP 13 = some c13 from rfl) rfl]
  have h36 : ∀ (a b : Int) (s : Sig), callL AP (.fn 36) [.slice .full 1 [[I a], [I b]]] s = some (I (firstErr [a, b]), s) := fun a b s => s36 (l := [a, b]) (show (2 : Int) < _ by decide)
  have e : firstErr [cond (loopOk a b c d) 0 2, cond (decide ((l.length : Int) ≤ 200)) (cond (phOk l) 0 2) 8] = trkErr a b c d l := by
    unfold trkErr
    cases loopOk a b c d <;> cases decide ((l.length : Int) ≤ 200) <;> cases phOk l <;> rfl
  unfold trkRes
  by_cases h0 : trkErr a b c d l = 0
  · have hh : loopOk a b c d = true ∧ (l.length : Int) ≤ 200 ∧ phOk l = true := by
      unfold trkErr at h0
      cases h1 : loopOk a b c d <;> cases h2 : decide ((l.length : Int) ≤ 200) <;> cases h3 : phOk l <;> simp_all
    obtain ⟨h1, h2, h3⟩ := hh
    simp (maxSteps := 1000000) only [go_sem, b13, hs, s37, s40, h36, e, h0, ints_len, hl, ne_eq, not_true, Nat.reduceEqDiff, reduceCtorEq, Nat.reduceAdd, Nat.reduceMul, Nat.reduceSub, Int.reduceLT, Int.reduceLE, Int.reduceEq, Int.reduceAdd, Int.reduceSub, Int.reduceNeg, Int.reduceToNat, Int.cast_ofNat_Int, ↓reduceIte]
    have hd : -2048 ≤ d ∧ d ≤ 2047 := by
      simp only [loopOk, Bool.and_eq_true, wi_iff] at h1; exact h1.2
    refine (s13_loop (o := o) hs h1 (by omega) h3 l 0 0 d [] [] _ (.slice .nilS 0 []) (.slice .nilS 0 []) none none [] [] rfl (Nat.zero_le _) rfl rfl hd.1 hd.2 (by simp) (by simp) .start .start (.inr rfl) ?_ ?_ ?_ ?_ ?_ ?_ ?_).trans ?_ <;> rfl
  · simp (maxSteps := 1000000) only [go_sem, b13, hs, s37, s40, h36, e, h0, ints_len, hl, ne_eq, not_false_eq_true, Nat.reduceEqDiff, reduceCtorEq, Nat.reduceAdd, Nat.reduceMul, Nat.reduceSub, Int.reduceLT, Int.reduceLE, Int.reduceEq, Int.reduceAdd, Int.reduceSub, Int.reduceNeg, Int.reduceToNat, Int.cast_ofNat_Int, ↓reduceIte]
    done

theorem trkRes_ok {a b c d : Int} {l : List Int} (hl : loopOk a b c d = true) (hn : l.length ≤ 200) (hp : phOk l = true) :
    trkRes a b c d l = .tuple [accV 2 (sts (trackS a b c d 0 d l)), accV 1 (ints (trackE a b c d 0 d l)), I 0] := by
  have : decide ((l.length : Int) ≤ 200) = true := by simp; omega
  have e : trkErr a b c d l = 0 := by simp only [trkErr, hl, this, hp, cond_true]
  simp only [trkRes, e, decide_true, cond_true]

theorem trackS_bd {a b c d : Int} (hl : loopOk a b c d = true) : ∀ (l : List Int) (p f : Int) (k : Int), -2048 ≤ f → f ≤ 2047 → 0 ≤ k → -(300000000 * k) ≤ p → p ≤ 300000000 * k → ∀ q ∈ trackS a b c d p f l, -(300000000 * (k + l.length)) ≤ q.1 ∧ q.1 ≤ 300000000 * (k + l.length) ∧ -2048 ≤ q.2 ∧ q.2 ≤ 2047
  | [], _, _, _, _, _, _, _, _ => by simp [trackS]
  | x :: r, p, f, k, hf, hf2, hk, h1, h2 => by
    intro q hq
    rw [trackS] at hq
    have hb := sgn_bd (x - p)
    have hA := stepA_bd (f := f) (e := sgn (x - p)) hl (by omega) (by omega)
    have hF := stepF_bd (a := a) (b := b) (c := c) (d := d) (f := f) (e := sgn (x - p))
    rcases List.mem_cons.1 hq with rfl | hq
    · simp only [List.length_cons]; omega
    · have := trackS_bd hl r _ _ (k + 1) hF.1 hF.2 (by omega) (by omega) (by omega) q hq
      simp only [List.length_cons]; omega

/-- the samples at which the turn changes -/
def slipsGo : List (Int × Int) → List Int → Nat → Int → List Int
  | (p, _) :: ss, t :: ts, i, w => if (t - p + 2048) / 4096 = w then slipsGo ss ts (i + 1) ((t - p + 2048) / 4096) else (i : Int) :: slipsGo ss ts (i + 1) ((t - p + 2048) / 4096)
  | _, _, _, _ => []

theorem s14_loop {S : List (Int × Int)} {T : List Int} {o : Own} (hs : Ok s) (hn : S.length ≤ 200) (hT : T.length = S.length) (hS : ∀ q ∈ S, -100000000000 ≤ q.1 ∧ q.1 ≤ 100000000000) (hT2 : ∀ t ∈ T, -1000000000000 ≤ t ∧ t ≤ 1000000000000) {b0 : List AV} :
    ∀ (r : List (Int × Int)) (k : Nat) (w : Int) (ex : List Int) (ρ : Nat → AV) (x : AV) (g : Option Nat) (junk : List (List AV)) (toks : List (Option Nat)),
    S.drop k = r → k ≤ S.length → ex.length ≤ k → Acc s.acts.length 1 (ints ex) x g toks →
    ρ 2 = .slice o 1 (ints T) → ρ 12 = x → ρ 13 = I w → ρ 41 = accV 2 (sts S) → ρ 42 = I S.length → ρ 43 = I k →
    go AP f14 (.c (.loop b14_l0) :: k14_0) ⟨ρ, s.push ⟨b0 :: junk, toks⟩⟩ = some (.tuple [accV 1 (ints (ex ++ slipsGo r (T.drop k) k w)), I 0], s) := by
  intro r
  induction r with
  | nil =>
    intro k w ex ρ x g junk toks hr hk he hx r2 r12 r13 r41 r42 r43
    have e : k = S.length := by
      have := congrArg List.length hr
      simp at this; omega
    subst e
    rw [go_loop]
    simp (maxSteps := 1000000) only [go_sem, b14_l0, b14_r0, r12, r42, r43, ge_dec, hx.leave, Nat.reduceEqDiff, reduceCtorEq, Nat.reduceAdd, Nat.reduceMul, Nat.reduceSub, Int.reduceLT, Int.reduceLE, Int.reduceEq, Int.reduceAdd, Int.reduceSub, Int.reduceNeg, Int.reduceToNat, Int.cast_ofNat_Int, ↓reduceIte]
    simp [slipsGo]
  | cons q r ih =>
    intro k w ex ρ x g junk toks hr hk he hx r2 r12 r13 r41 r42 r43
    have hlt : k < S.length := by
      have := congrArg List.length hr
      simp at this; omega
    have hq : S[k]? = some q := by
      have := congrArg (·[0]?) hr
      simpa using this
    obtain ⟨t, ht⟩ := get_some (l := T) (k := k) (by omega)
    have hqb := hS q (List.mem_of_getElem? hq)
    have htb := hT2 t (List.mem_of_getElem? ht)
    have i1 := ix_acc (es := 2) (xs := sts S) (k := k) (row := [I q.1, I q.2]) (by simp [sts, hq])
    have i2 := ix_sl (o := o) (es := 1) (ints_get ht)
    have w1 := wrap_id (x := t - q.1) (by omega) (by omega)
    have w2 := wrap_id (x := t - q.1 + 2048) (by omega) (by omega)
    have e45 : ∀ s, callL AP (.fn 45) [I (t - q.1 + 2048), I 4096] s = some (I ((t - q.1 + 2048) / 4096), s) := fun s => s45 (by omega) (by omega) (by omega) (by omega)
    obtain ⟨x', g', t1, a1, hx', n1, _⟩ := hx.append hs .full (ys := [[I (k : Int)]]) (by simp) (by rw [ints_len]; simp; omega)
    rw [drop_get ht, slipsGo, go_loop]
    have hdr : S.drop (k + 1) = r := by rw [← List.drop_drop, hr]; rfl
    by_cases hc : (t - q.1 + 2048) / 4096 = w
    · simp (maxSteps := 1000000) only [go_sem, b14_l0, b14_r0, r2, r12, r13, r41, r42, r43, lt_dec hlt, i1, i2, w1, w2, e45, hs, hc, ne_eq, not_true, wrap_succ hlt (show (S.length : Int) < _ by omega), Nat.reduceEqDiff, reduceCtorEq, Nat.reduceAdd, Nat.reduceMul, Nat.reduceSub, Int.reduceLT, Int.reduceLE, Int.reduceEq, Int.reduceAdd, Int.reduceSub, Int.reduceNeg, Int.reduceToNat, Int.cast_ofNat_Int, ↓reduceIte]
      refine (ih (k + 1) w ex _ x g (junk ++ [[I q.1, I q.2]]) toks hdr (by omega) (by omega) hx ?_ ?_ ?_ ?_ ?_ ?_).trans ?_
      · exact r2
      · exact r12
      · rfl
      · exact r41
      · exact r42
      · rfl
      · rfl
    · simp (maxSteps := 1000000) only [go_sem, b14_l0, b14_r0, r2, r12, r13, r41, r42, r43, lt_dec hlt, i1, i2, w1, w2, e45, hs, hc, a1, ne_eq, not_false_eq_true, wrap_succ hlt (show (S.length : Int) < _ by omega), Nat.reduceEqDiff, reduceCtorEq, Nat.reduceAdd, Nat.reduceMul, Nat.reduceSub, Int.reduceLT, Int.reduceLE, Int.reduceEq, Int.reduceAdd, Int.reduceSub, Int.reduceNeg, Int.reduceToNat, Int.cast_ofNat_Int, ↓reduceIte]
      refine (ih (k + 1) ((t - q.1 + 2048) / 4096) (ex ++ [(k : Int)]) _ x' g' (junk ++ [[I q.1, I q.2]]) t1 hdr (by omega) (by simp; omega) (by rw [ints_app]; exact hx') ?_ ?_ ?_ ?_ ?_ ?_).trans ?_
      · exact r2
      · rfl
      · rfl
      · exact r41
      · exact r42
      · rfl
      · simp

abbrev totOk (l : List Int) : Bool := !(l.any fun x => !wi x (-1000000000000) 1000000000000)
theorem s14 {a b c d : Int} {l T : List Int} {o o2 : Own} (hs : Ok s) (hl : loopOk a b c d = true) (hn : l.length ≤ 200) (hp : phOk l = true) (hT : T.length = l.length) (hT2 : totOk T = true) :
    callL AP (.fn 14) [LP a b c d, .slice o 1 (ints l), .slice o2 1 (ints T)] s = some (.tuple [accV 1 (ints (slipsGo (trackS a b c d 0 d l) T 0 0)), I 0], s) := by
  rw [callL_go (show AP 14 = some c14 from rfl) rfl]
  have e13 : ∀ r, callL AP (.fn 13) [LP a b c d, .slice o 1 (ints l)] (s.push r) = some (.tuple [accV 2 (sts (trackS a b c d 0 d l)), accV 1 (ints (trackE a b c d 0 d l)), I 0], s.push r) := fun r => by
    rw [s13 (hs.push r) (by omega), trkRes_ok hl hn hp]
  have h36 : ∀ (a b c : Int) (s : Sig), callL AP (.fn 36) [.slice .full 1 [[I a], [I b], [I c]]] s = some (I (firstErr [a, b, c]), s) := fun a b c s => s36 (l := [a, b, c]) (show (3 : Int) < _ by decide)
  have e42 : ∀ s, callL AP (.fn 42) [.slice o2 1 (ints T), .fn 43 [] []] s = some (B (T.any fun x => !wi x (-1000000000000) 1000000000000), s) := fun s => s42 (by omega) (fun x s => s43 (a := x))
  have hT3 : (T.any fun x => !wi x (-1000000000000) 1000000000000) = false := by simpa [totOk] using hT2
  have hlen : (T.length : Int) = (l.length : Int) := by omega
  have hf : firstErr [0, 0, 0] = 0 := rfl
  have hd : -2048 ≤ d ∧ d ≤ 2047 := by
    simp only [loopOk, Bool.and_eq_true, wi_iff] at hl; exact hl.2
  simp (maxSteps := 1000000) only [go_sem, b14, hs, e13, e42, hT3, h36, s38, ints_len, hlen, hf, sts_len, ne_eq, not_true, Nat.reduceEqDiff, reduceCtorEq, Nat.reduceAdd, Nat.reduceMul, Nat.reduceSub, Int.reduceLT, Int.reduceLE, Int.reduceEq, Int.reduceAdd, Int.reduceSub, Int.reduceNeg, Int.reduceToNat, Int.cast_ofNat_Int, ↓reduceIte]
  have hbd := trackS_bd hl l 0 d 0 hd.1 hd.2 (by omega) (by omega) (by omega)
  have hle := trackS_len a b c d l 0 d
  have hT4 : ∀ t ∈ T, -1000000000000 ≤ t ∧ t ≤ 1000000000000 := by
    intro t ht
    have h2 : ∀ y ∈ T, wi y (-1000000000000) 1000000000000 = true := by simpa [totOk] using hT2
    exact wi_iff.1 (h2 t ht)
  refine (s14_loop (S := trackS a b c d 0 d l) (T := T) (o := o2) hs (by omega) (by omega) (fun q hq => by have := hbd q hq; omega) hT4 (trackS a b c d 0 d l) 0 0 [] _ (.slice .nilS 0 []) none [] [] rfl (Nat.zero_le _) (Nat.zero_le _) .start ?_ ?_ ?_ ?_ ?_ ?_).trans ?_ <;> rfl

/-- where two loops are apart -/
def disGo (th : Int) : List (Int × Int) → List (Int × Int) → Nat → List Int
  | (p, _) :: ss, (q, _) :: ts, i => if th ≤ max (p - q) (-(p - q)) then (i : Int) :: disGo th ss ts (i + 1) else disGo th ss ts (i + 1)
  | _, _, _ => []

theorem s11_loop {S T : List (Int × Int)} {th : Int} (hs : Ok s) (hn : S.length ≤ 200) (hT : T.length = S.length) (hS : ∀ q ∈ S, -100000000000 ≤ q.1 ∧ q.1 ≤ 100000000000) (hT2 : ∀ q ∈ T, -100000000000 ≤ q.1 ∧ q.1 ≤ 100000000000) {b0 : List AV} :
    ∀ (r : List (Int × Int)) (k : Nat) (ex : List Int) (ρ : Nat → AV) (x : AV) (g : Option Nat) (toks : List (Option Nat)),
    S.drop k = r → k ≤ S.length → ex.length ≤ k → Acc s.acts.length 1 (ints ex) x g toks →
    ρ 2 = I th → ρ 8 = accV 2 (sts S) → ρ 11 = accV 2 (sts T) → ρ 14 = x → ρ 49 = I S.length → ρ 50 = I k →
    go AP f11 (.c (.loop b11_l0) :: k11_0) ⟨ρ, s.push ⟨[b0], toks⟩⟩ = some (.tuple [accV 1 (ints (ex ++ disGo th r (T.drop k) k)), I 0], s) := by
  intro r
  induction r with
  | nil =>
    intro k ex ρ x g toks hr hk he hx r2 r8 r11 r14 r49 r50
    have e : k = S.length := by
      have := congrArg List.length hr
      simp at this; omega
    subst e
    rw [go_loop]
    simp (maxSteps := 1000000) only [go_sem, b11_l0, b11_r0, r14, r49, r50, ge_dec, hx.leave, Nat.reduceEqDiff, reduceCtorEq, Nat.reduceAdd, Nat.reduceMul, Nat.reduceSub, Int.reduceLT, Int.reduceLE, Int.reduceEq, Int.reduceAdd, Int.reduceSub, Int.reduceNeg, Int.reduceToNat, Int.cast_ofNat_Int, ↓reduceIte]
    simp [disGo]
  | cons q r ih =>
    intro k ex ρ x g toks hr hk he hx r2 r8 r11 r14 r49 r50
    have hlt : k < S.length := by
      have := congrArg List.length hr
      simp at this; omega
    have hq : S[k]? = some q := by
      have := congrArg (·[0]?) hr
      simpa using this
    obtain ⟨t, ht⟩ := get_some (l := T) (k := k) (by omega)
    have hqb := hS q (List.mem_of_getElem? hq)
    have htb := hT2 t (List.mem_of_getElem? ht)
    have i1 := ix_acc (es := 2) (xs := sts S) (k := k) (row := [I q.1, I q.2]) (by simp [sts, hq])
    have i2 := ix_acc (es := 2) (xs := sts T) (k := k) (row := [I t.1, I t.2]) (by simp [sts, ht])
    have w1 := wrap_id (x := q.1 - t.1) (by omega) (by omega)
    have e39 : ∀ s, callL AP (.fn 39) [I (q.1 - t.1)] s = some (I (max (q.1 - t.1) (-(q.1 - t.1))), s) := fun s => s39 (by omega) (by omega)
    obtain ⟨x', g', t1, a1, hx', n1, _⟩ := hx.append hs .full (ys := [[I (k : Int)]]) (by simp) (by rw [ints_len]; simp; omega)
    rw [drop_get ht, disGo, go_loop]
    have hdr : S.drop (k + 1) = r := by rw [← List.drop_drop, hr]; rfl
    by_cases hc : th ≤ max (q.1 - t.1) (-(q.1 - t.1))
    · simp (maxSteps := 1000000) only [go_sem, b11_l0, b11_r0, r2, r8, r11, r14, r49, r50, lt_dec hlt, i1, i2, w1, e39, hs, hc, a1, wrap_succ hlt (show (S.length : Int) < _ by omega), Nat.reduceEqDiff, reduceCtorEq, Nat.reduceAdd, Nat.reduceMul, Nat.reduceSub, Int.reduceLT, Int.reduceLE, Int.reduceEq, Int.reduceAdd, Int.reduceSub, Int.reduceNeg, Int.reduceToNat, Int.cast_ofNat_Int, ↓reduceIte]
      refine (ih (k + 1) (ex ++ [(k : Int)]) _ x' g' t1 hdr (by omega) (by simp; omega) (by rw [ints_app]; exact hx') ?_ ?_ ?_ ?_ ?_ ?_).trans ?_
      · exact r2
      · exact r8
      · exact r11
      · rfl
      · exact r49
      · rfl
      · simp
    · simp (maxSteps := 1000000) only [go_sem, b11_l0, b11_r0, r2, r8, r11, r14, r49, r50, lt_dec hlt, i1, i2, w1, e39, hs, hc, a1, wrap_succ hlt (show (S.length : Int) < _ by omega), Nat.reduceEqDiff, reduceCtorEq, Nat.reduceAdd, Nat.reduceMul, Nat.reduceSub, Int.reduceLT, Int.reduceLE, Int.reduceEq, Int.reduceAdd, Int.reduceSub, Int.reduceNeg, Int.reduceToNat, Int.cast_ofNat_Int, ↓reduceIte]
      refine (ih (k + 1) ex _ x g toks hdr (by omega) (by omega) hx ?_ ?_ ?_ ?_ ?_ ?_).trans ?_
      · exact r2
      · exact r8
      · exact r11
      · exact r14
      · exact r49
      · rfl
      · rfl

abbrev LP2 (a b c d a' b' c' d' : Int) : AV := .agg [I a, I b, I c, I d, I a', I b', I c', I d']
theorem s11 {a b c d a' b' c' d' th : Int} {l : List Int} {o : Own} (hs : Ok s) (hl : loopOk a b c d = true) (hl' : loopOk a' b' c' d' = true) (hn : l.length ≤ 200) (hp : phOk l = true) (hth : wi th 1 1000000000000 = true) :
    callL AP (.fn 11) [LP2 a b c d a' b' c' d', .slice o 1 (ints l), I th] s = some (.tuple [accV 1 (ints (disGo th (trackS a b c d 0 d l) (trackS a' b' c' d' 0 d' l) 0)), I 0], s) := by
  rw [callL_go (show AP 11 = some c11 from rfl) rfl]
  have e13 : ∀ r, callL AP (.fn 13) [LP a b c d, .slice o 1 (ints l)] (s.push r) = some (.tuple [accV 2 (sts (trackS a b c d 0 d l)), accV 1 (ints (trackE a b c d 0 d l)), I 0], s.push r) := fun r => by
    rw [s13 (hs.push r) (by omega), trkRes_ok hl hn hp]
  have e13' : ∀ r, callL AP (.fn 13) [LP a' b' c' d', .slice o 1 (ints l)] (s.push r) = some (.tuple [accV 2 (sts (trackS a' b' c' d' 0 d' l)), accV 1 (ints (trackE a' b' c' d' 0 d' l)), I 0], s.push r) := fun r => by
    rw [s13 (hs.push r) (by omega), trkRes_ok hl' hn hp]
  have h36 : ∀ (a b c d e : Int) (s : Sig), callL AP (.fn 36) [.slice .full 1 [[I a], [I b], [I c], [I d], [I e]]] s = some (I (firstErr [a, b, c, d, e]), s) := fun a b c d e s => s36 (l := [a, b, c, d, e]) (show (5 : Int) < _ by decide)
  have hf : firstErr [0, 0, 0, 0, 0] = 0 := rfl
  have hd : -2048 ≤ d ∧ d ≤ 2047 := by
    simp only [loopOk, Bool.and_eq_true, wi_iff] at hl; exact hl.2
  have hd' : -2048 ≤ d' ∧ d' ≤ 2047 := by
    simp only [loopOk, Bool.and_eq_true, wi_iff] at hl'; exact hl'.2
  simp (maxSteps := 1000000) only [go_sem, b11, hs, e13, e13', h36, s37, hl, hl', s32, s38, hth, hf, ints_len, sts_len, ne_eq, not_true, Nat.reduceEqDiff, reduceCtorEq, Nat.reduceAdd, Nat.reduceMul, Nat.reduceSub, Int.reduceLT, Int.reduceLE, Int.reduceEq, Int.reduceAdd, Int.reduceSub, Int.reduceNeg, Int.reduceToNat, Int.cast_ofNat_Int, ↓reduceIte]
  have hbd := trackS_bd hl l 0 d 0 hd.1 hd.2 (by omega) (by omega) (by omega)
  have hbd' := trackS_bd hl' l 0 d' 0 hd'.1 hd'.2 (by omega) (by omega) (by omega)
  have hle := trackS_len a b c d l 0 d
  have hle' := trackS_len a' b' c' d' l 0 d'
  refine (s11_loop (S := trackS a b c d 0 d l) (T := trackS a' b' c' d' 0 d' l) (th := th) hs (by omega) (by omega) (fun q hq => by have := hbd q hq; omega) (fun q hq => by have := hbd' q hq; omega) (trackS a b c d 0 d l) 0 [] _ (.slice .nilS 0 []) none [] rfl (Nat.zero_le _) (Nat.zero_le _) .start ?_ ?_ ?_ ?_ ?_ ?_).trans ?_ <;> rfl
end
end Go.Ax.Sx.Sl
