import Derived.Test.YtfmojojicndbcaaSlS3
namespace Go.Ax.Sx.Sl
open Go.Ax
set_option linter.unusedSimpArgs false
set_option linter.unusedVariables false

section
variable {s : Sig}

/-- a row: frequency, least and greatest deviation -/
abbrev Row := Int × Int × Int
def rowsV (l : List Row) : List (List AV) := l.map fun r => [I r.1, I r.2.1, I r.2.2]
theorem rowsV_len {l : List Row} : (rowsV l).length = l.length := by simp [rowsV]
theorem rowsV_get {l : List Row} {k : Nat} {x : Row} (h : l[k]? = some x) : (rowsV l)[k]? = some [I x.1, I x.2.1, I x.2.2] := by simp [rowsV, h]
def inR (l : List Row) (f d : Int) : Bool := l.any fun r => decide (r.1 = f) && wi d r.2.1 r.2.2

theorem s47 {a b c d f e : Int} (hs : Ok s) (hl : loopOk a b c d = true) (hf : -2048 ≤ f) (hf2 : f ≤ 2047) (he : -100000 ≤ e) (he2 : e ≤ 100000) :
    callL AP (.fn 47) [LP a b c d, I f, I e] s = some (.tuple [I (stepF a b c d f e), I (stepA a b c d f e)], s) := by
  rw [callL_go (show AP 47 = some c47 from rfl) rfl]
  simp only [loopOk, Bool.and_eq_true, wi_iff] at hl
  obtain ⟨⟨⟨ha, hb⟩, hc⟩, hd⟩ := hl
  have m1 := mul_small he he2 hb.1 hb.2
  have m2 := mul_small he he2 ha.1 ha.2
  have d1 := ediv_bound (n := e * b) (b := c) (by omega) 100000000 (by omega) (by omega)
  have d2 := ediv_bound (n := e * a) (b := c) (by omega) 100000000 (by omega) (by omega)
  have w1 := wrap_id (x := e * b) (by omega) (by omega)
  have w2 := wrap_id (x := f + e * b / c) (by omega) (by omega)
  have w3 := wrap_id (x := e * a) (by omega) (by omega)
  have w5 : min 2047 (max (-2048) (f + e * b / c)) = min (max (f + e * b / c) (-2048)) 2047 := by omega
  have w4 := wrap_id (x := min (max (f + e * b / c) (-2048)) 2047 + e * a / c) (by omega) (by omega)
  simp (maxSteps := 1000000) only [go_sem, b47, hs, w1, w2, w3, w4, w5, s58 (s := s.push _) (n := e * b) (b := c) (by omega) (by omega) (by omega) (by omega), s58 (s := s.push _) (n := e * a) (b := c) (by omega) (by omega) (by omega) (by omega), Nat.reduceEqDiff, reduceCtorEq, Nat.reduceAdd, Nat.reduceMul, Nat.reduceSub, Int.reduceLT, Int.reduceLE, Int.reduceEq, Int.reduceAdd, Int.reduceSub, Int.reduceNeg, Int.reduceToNat, Int.cast_ofNat_Int, ↓reduceIte]
  rfl

theorem s25 {a b c d f e w t : Int} (hs : Ok s) (hl : loopOk a b c d = true) (hf : -2048 ≤ f) (hf2 : f ≤ 2047) (he : -10000 ≤ e) (he2 : e ≤ 10000) (hw : -10000 ≤ w) (hw2 : w ≤ 10000) (ht : -10000 ≤ t) (ht2 : t ≤ 10000) :
    callL AP (.fn 25) [LP a b c d, SP f e, SP w t] s = some (SP (stepF a b c d f (e + w)) (e + t - stepA a b c d f (e + w)), s) := by
  rw [callL_go (show AP 25 = some c25 from rfl) rfl]
  have hA := stepA_bd (f := f) (e := e + w) hl (by omega) (by omega)
  have w1 := wrap_id (x := e + w) (by omega) (by omega)
  have w2 := wrap_id (x := e + t) (by omega) (by omega)
  have w3 := wrap_id (x := e + t - stepA a b c d f (e + w)) (by omega) (by omega)
  simp (maxSteps := 1000000) only [go_sem, b25, hs, w1, w2, w3, s47 (hs.push _) hl hf hf2 (show -100000 ≤ e + w by omega) (by omega), Nat.reduceEqDiff, reduceCtorEq, Nat.reduceAdd, Nat.reduceMul, Nat.reduceSub, Int.reduceLT, Int.reduceLE, Int.reduceEq, Int.reduceAdd, Int.reduceSub, Int.reduceNeg, Int.reduceToNat, Int.cast_ofNat_Int, ↓reduceIte]
theorem s24 {a b c d n f e : Int} (hs : Ok s) (he : -10000 ≤ e) (he2 : e ≤ 10000) (hw : -10000 ≤ n) (hw2 : n ≤ 10000) :
    callL AP (.fn 24) [CL a b c d n, SP f e] s = some (B (!(wi (e - n) (-2048) 2047 && wi (e + n) (-2048) 2047)), s) := by
  rw [callL_go (show AP 24 = some c24 from rfl) rfl]
  have w1 := wrap_id (x := e - n) (by omega) (by omega)
  have w2 := wrap_id (x := e + n) (by omega) (by omega)
  simp (maxSteps := 1000000) only [go_sem, b24, hs, w1, w2, s22, Nat.reduceEqDiff, reduceCtorEq, Nat.reduceAdd, Nat.reduceMul, Nat.reduceSub, Int.reduceLT, Int.reduceLE, Int.reduceEq, Int.reduceAdd, Int.reduceSub, Int.reduceNeg, Int.reduceToNat, Int.cast_ofNat_Int, ↓reduceIte]
  cases wi (e - n) (-2048) 2047 <;> cases wi (e + n) (-2048) 2047 <;> rfl
theorem s23 {f e : Int} {l : List Row} {o : Own} (hs : Ok s) (hl : l.length ≤ 100) : callL AP (.fn 23) [.slice o 3 (rowsV l), SP f e] s = some (B (inR l f e), s) := by
  have key : ∀ k ρ m, k ≤ l.length → (ρ 0 = .slice o 3 (rowsV l) ∧ ρ 3 = .ptr s.acts.length 0 0 ∧ ρ 5 = I k ∧ m = s.push ⟨[[I f, I e]], []⟩) → go AP f23 (.c (.loop b23_l0) :: k23_0) ⟨ρ, m⟩ = some (B (inR (l.drop k) f e), s) := by
    refine loop_up l.length _ _ ?_ ?_
    · rintro k ρ m hk ⟨h0, h3, h5, rfl⟩ ih
      obtain ⟨x, hx⟩ := get_some hk
      have hr := ix_sl (o := o) (es := 3) (rowsV_get hx)
      simp (maxSteps := 1000000) only [go_sem, b23_l0, b23_r0, h0, h3, h5, lt_dec hk, hr, rowsV_len, s18, wrap_succ hk (show (l.length : Int) < _ by omega), Nat.reduceEqDiff, reduceCtorEq, Nat.reduceAdd, Nat.reduceMul, Nat.reduceSub, Int.reduceLT, Int.reduceLE, Int.reduceEq, Int.reduceAdd, Int.reduceSub, Int.reduceNeg, Int.reduceToNat, Int.cast_ofNat_Int, ↓reduceIte]
      rw [drop_get hx]
      have e2 : inR (x :: l.drop (k + 1)) f e = ((decide (x.1 = f) && wi e x.2.1 x.2.2) || inR (l.drop (k + 1)) f e) := by simp [inR]
      rw [e2]
      cases decide (x.1 = f) && wi e x.2.1 x.2.2
      · exact ih _ _ ⟨h0, h3, rfl, rfl⟩
      · rfl
    · rintro ρ m ⟨h0, h3, h5, rfl⟩
      simp (maxSteps := 1000000) only [go_sem, b23_l0, b23_r0, h0, h5, rowsV_len, ge_dec, Nat.reduceEqDiff, reduceCtorEq, Nat.reduceAdd, Nat.reduceMul, Nat.reduceSub, Int.reduceLT, Int.reduceLE, Int.reduceEq, Int.reduceAdd, Int.reduceSub, Int.reduceNeg, Int.reduceToNat, Int.cast_ofNat_Int, ↓reduceIte]
      rw [List.drop_length]; rfl
  rw [callL_go (show AP 23 = some c23 from rfl) rfl]
  simp (maxSteps := 1000000) only [go_sem, b23, hs, Nat.reduceEqDiff, reduceCtorEq, Nat.reduceAdd, Nat.reduceMul, Nat.reduceSub, Int.reduceLT, Int.reduceLE, Int.reduceEq, Int.reduceAdd, Int.reduceSub, Int.reduceNeg, Int.reduceToNat, Int.cast_ofNat_Int, ↓reduceIte]
  exact key 0 _ _ (Nat.zero_le _) ⟨rfl, rfl, rfl, rfl⟩

theorem s52 {e w : Int} (he : -10000 ≤ e) (he2 : e ≤ 10000) (hw : -10000 ≤ w) (hw2 : w ≤ 10000) : callL AP (.fn 52) [I e, I w] s = some (B (!wi (e + w) (-2048) 2047), s) := by
  rw [callL_go (show AP 52 = some c52 from rfl) rfl]
  simp (maxSteps := 1000000) only [go_sem, b52, wrap_id (x := e + w) (by omega) (by omega), s51, Nat.reduceEqDiff, reduceCtorEq, Nat.reduceAdd, Nat.reduceMul, Nat.reduceSub, Int.reduceLT, Int.reduceLE, Int.reduceEq, Int.reduceAdd, Int.reduceSub, Int.reduceNeg, Int.reduceToNat, Int.cast_ofNat_Int, ↓reduceIte]

abbrev GA (a b c d p q t u n : Int) : AV := .agg [I a, I b, I c, I d, I p, I q, I t, I u, I n]
theorem s33 {a b c d p q t u n f e : Int} (hs : Ok s) (he : -10000 ≤ e) (he2 : e ≤ 10000) (hw : -10000 ≤ n) (hw2 : n ≤ 10000) :
    callL AP (.fn 33) [GA a b c d p q t u n, SP f e] s = some (B (!(wi (e - n) (-2048) 2047 && wi (e + n) (-2048) 2047)), s) := by
  rw [callL_go (show AP 33 = some c33 from rfl) rfl]
  have w1 := wrap_id (x := -n) (by omega) (by omega)
  have e1 : e + -n = e - n := by omega
  have k1 : ∀ s, callL AP (.fn 52) [I e, I (-n)] s = some (B (!wi (e - n) (-2048) 2047), s) := fun s => by rw [← e1]; exact s52 he he2 (by omega) (by omega)
  have k2 : ∀ s, callL AP (.fn 52) [I e, I n] s = some (B (!wi (e + n) (-2048) 2047), s) := fun s => s52 he he2 (by omega) (by omega)
  simp (maxSteps := 1000000) only [go_sem, b33, hs, w1, k1, k2, Nat.reduceEqDiff, reduceCtorEq, Nat.reduceAdd, Nat.reduceMul, Nat.reduceSub, Int.reduceLT, Int.reduceLE, Int.reduceEq, Int.reduceAdd, Int.reduceSub, Int.reduceNeg, Int.reduceToNat, Int.cast_ofNat_Int, ↓reduceIte]
  cases wi (e - n) (-2048) 2047 <;> cases wi (e + n) (-2048) 2047 <;> rfl
theorem s35 {a b c d p q t u n f e w x : Int} (hs : Ok s) (hl : loopOk a b c d = true) (hf : -2048 ≤ f) (hf2 : f ≤ 2047) (he : -10000 ≤ e) (he2 : e ≤ 10000) (hw : -10000 ≤ w) (hw2 : w ≤ 10000) (ht : -10000 ≤ x) (ht2 : x ≤ 10000) :
    callL AP (.fn 35) [GA a b c d p q t u n, SP f e, SP w x] s = some (SP (stepF a b c d f (e + w)) (e + x - stepA a b c d f (e + w)), s) := by
  rw [callL_go (show AP 35 = some c35 from rfl) rfl]
  have hA := stepA_bd (f := f) (e := e + w) hl (by omega) (by omega)
  have w1 := wrap_id (x := e + w) (by omega) (by omega)
  have w2 := wrap_id (x := e + x) (by omega) (by omega)
  have w3 := wrap_id (x := e + x - stepA a b c d f (e + w)) (by omega) (by omega)
  simp (maxSteps := 1000000) only [go_sem, b35, hs, w1, w2, w3, s53 (hs.push _) hl hf hf2 (show -100000 ≤ e + w by omega) (by omega), Nat.reduceEqDiff, reduceCtorEq, Nat.reduceAdd, Nat.reduceMul, Nat.reduceSub, Int.reduceLT, Int.reduceLE, Int.reduceEq, Int.reduceAdd, Int.reduceSub, Int.reduceNeg, Int.reduceToNat, Int.cast_ofNat_Int, ↓reduceIte]

theorem s15 {p f : Int} (hs : Ok s) : callL AP (.fn 15) [SP p f] s = some (I (cond (wi p (-1000000000000) 1000000000000 && wi f (-2048) 2047) 0 2), s) := by
  rw [callL_go (show AP 15 = some c15 from rfl) rfl]
  simp (maxSteps := 1000000) only [go_sem, b15, hs, s46, s22, Nat.reduceEqDiff, reduceCtorEq, Nat.reduceAdd, Nat.reduceMul, Nat.reduceSub, Int.reduceLT, Int.reduceLE, Int.reduceEq, Int.reduceAdd, Int.reduceSub, Int.reduceNeg, Int.reduceToNat, Int.cast_ofNat_Int, ↓reduceIte]
  cases wi p (-1000000000000) 1000000000000 <;> cases wi f (-2048) 2047 <;> rfl
theorem s19 (hs : Ok s) : callL AP (.fn 19) [] s = some (LP 1 0 2 0, s) := by
  rw [callL_go (show AP 19 = some c19 from rfl) rfl]
  simp (maxSteps := 1000000) only [go_sem, b19, hs, Nat.reduceEqDiff, reduceCtorEq, Nat.reduceAdd, Nat.reduceMul, Nat.reduceSub, Int.reduceLT, Int.reduceLE, Int.reduceEq, Int.reduceAdd, Int.reduceSub, Int.reduceNeg, Int.reduceToNat, Int.cast_ofNat_Int, ↓reduceIte]
theorem s20 (hs : Ok s) : callL AP (.fn 20) [] s = some (CL 0 0 10 10 0, s) := by
  rw [callL_go (show AP 20 = some c20 from rfl) rfl]
  simp (maxSteps := 1000000) only [go_sem, b20, hs, Nat.reduceEqDiff, reduceCtorEq, Nat.reduceAdd, Nat.reduceMul, Nat.reduceSub, Int.reduceLT, Int.reduceLE, Int.reduceEq, Int.reduceAdd, Int.reduceSub, Int.reduceNeg, Int.reduceToNat, Int.cast_ofNat_Int, ↓reduceIte]
theorem s31 {f lo hi x : Int} (hs : Ok s) (hf : -2048 ≤ f) (hf2 : f ≤ 2047) (he : -10000 ≤ x) (he2 : x ≤ 10000) : callL AP (.fn 31) [.agg [I f, I lo, I hi], I x] s = some (I (f - x), s) := by
  rw [callL_go (show AP 31 = some c31 from rfl) rfl]
  simp (maxSteps := 1000000) only [go_sem, b31, hs, wrap_id (x := f - x) (by omega) (by omega), Nat.reduceEqDiff, reduceCtorEq, Nat.reduceAdd, Nat.reduceMul, Nat.reduceSub, Int.reduceLT, Int.reduceLE, Int.reduceEq, Int.reduceAdd, Int.reduceSub, Int.reduceNeg, Int.reduceToNat, Int.cast_ofNat_Int, ↓reduceIte]
theorem s27 {a b c d p q t u n : Int} (hs : Ok s) (hl : loopOk a b c d = true) (hc : clErr p q t u n = 0) : callL AP (.fn 27) [LP a b c d, CL p q t u n] s = some (.tuple [GA a b c d p q t u n, I 0], s) := by
  rw [callL_go (show AP 27 = some c27 from rfl) rfl]
  have h36 : ∀ (a b : Int) (s : Sig), callL AP (.fn 36) [.slice .full 1 [[I a], [I b]]] s = some (I (firstErr [a, b]), s) := fun a b s => s36 (l := [a, b]) (show (2 : Int) < _ by decide)
  simp (maxSteps := 1000000) only [go_sem, b27, hs, s37, s49, hl, hc, h36, Nat.reduceEqDiff, reduceCtorEq, Nat.reduceAdd, Nat.reduceMul, Nat.reduceSub, Int.reduceLT, Int.reduceLE, Int.reduceEq, Int.reduceAdd, Int.reduceSub, Int.reduceNeg, Int.reduceToNat, Int.cast_ofNat_Int, ↓reduceIte]
  rfl

/-- A region's rows are in order. -/
def ordR (l : List Row) : Prop := (∀ (i j : Nat) (x y : Row), i < j → l[i]? = some x → l[j]? = some y → x.1 < y.1) ∧ ∀ x ∈ l, -2048 ≤ x.1 ∧ x.1 ≤ 2047 ∧ -2048 ≤ x.2.1 ∧ x.2.1 ≤ x.2.2 ∧ x.2.2 ≤ 2047

theorem mid_eq {i j : Nat} (hi : i ≤ 1000) (hj : j ≤ 1000) : IntKind.i64.wrap (IntKind.u64.wrap (IntKind.i64.wrap ((i : Int) + (j : Int))) / 2) = (((i + j) / 2 : Nat) : Int) := by
  rw [wrap_id (x := (i : Int) + j) (by omega) (by omega), u64_id (by omega) (by omega), wrap_id (by omega) (by omega)]; omega

/-- where a frequency stands, or would stand -/
def Pos (l : List Row) (f : Int) (p : Nat) : Prop := p ≤ l.length ∧ (∀ (i : Nat) (x : Row), i < p → l[i]? = some x → x.1 < f) ∧ ∀ (i : Nat) (x : Row), p ≤ i → l[i]? = some x → f ≤ x.1

theorem s30 {f : Int} {l : List Row} {o : Own} (hs : Ok s) (hl : l.length ≤ 100) (ho : ordR l) (hf : -2048 ≤ f) (hf2 : f ≤ 2047) :
    ∃ p, Pos l f p ∧ callL AP (.fn 30) [.slice o 3 (rowsV l), I f, .fn 31 [] []] s = some (.tuple [I p, B (match l[p]? with | some x => decide (x.1 = f) | none => false)], s) := by
  have key : ∀ (n i j : Nat) (ρ : Nat → AV), j - i ≤ n → i ≤ j → j ≤ l.length → (∀ (q : Nat) (x : Row), q < i → l[q]? = some x → x.1 < f) → (∀ (q : Nat) (x : Row), j ≤ q → l[q]? = some x → f ≤ x.1) →
      ρ 0 = .slice o 3 (rowsV l) → ρ 1 = I f → ρ 2 = .fn 31 [] [] → ρ 8 = I l.length → ρ 9 = I i → ρ 10 = I j →
      ∃ p, Pos l f p ∧ go AP f30 (.c (.loop b30_l0) :: k30_0) ⟨ρ, s.push ⟨[], []⟩⟩ = some (.tuple [I p, B (match l[p]? with | some x => decide (x.1 = f) | none => false)], s) := by
    intro n
    induction n with
    | zero =>
      intro i j ρ h1 h2 h3 h4 h5 r0 r1 r2 r8 r9 r10
      have e : i = j := by omega
      subst e
      refine ⟨i, ⟨h3, h4, h5⟩, ?_⟩
      rw [go_loop]
      cases hq : l[i]? with
      | none =>
        have hd : decide ((i : Int) < (l.length : Int)) = false := by
          have := List.getElem?_eq_none_iff.1 hq
          simp; omega
        simp (maxSteps := 1000000) only [go_sem, b30_l0, b30_r0, r0, r1, r2, r8, r9, r10, ge_dec, hd, Nat.reduceEqDiff, reduceCtorEq, Nat.reduceAdd, Nat.reduceMul, Nat.reduceSub, Int.reduceLT, Int.reduceLE, Int.reduceEq, Int.reduceAdd, Int.reduceSub, Int.reduceNeg, Int.reduceToNat, Int.cast_ofNat_Int, ↓reduceIte]
      | some x =>
        have hlt := (List.getElem?_eq_some_iff.1 hq).1
        have hxb := ho.2 x (List.mem_of_getElem? hq)
        have i1 := ix_sl (o := o) (es := 3) (rowsV_get hq)
        have e1 : decide (x.1 - f = 0) = decide (x.1 = f) := by by_cases h : x.1 = f <;> simp [h]; omega
        simp (maxSteps := 1000000) only [go_sem, b30_l0, b30_r0, r0, r1, r2, r8, r9, r10, ge_dec, lt_dec hlt, i1, s31 (hs.push _) hxb.1 hxb.2.1 (show -10000 ≤ f by omega) (show f ≤ 10000 by omega), e1, Nat.reduceEqDiff, reduceCtorEq, Nat.reduceAdd, Nat.reduceMul, Nat.reduceSub, Int.reduceLT, Int.reduceLE, Int.reduceEq, Int.reduceAdd, Int.reduceSub, Int.reduceNeg, Int.reduceToNat, Int.cast_ofNat_Int, ↓reduceIte]
    | succ n ih =>
      intro i j ρ h1 h2 h3 h4 h5 r0 r1 r2 r8 r9 r10
      by_cases hij : i = j
      · exact ih i j ρ (by omega) h2 h3 h4 h5 r0 r1 r2 r8 r9 r10
      · obtain ⟨x, hx⟩ := get_some (l := l) (k := (i + j) / 2) (by omega)
        have hxb := ho.2 x (List.mem_of_getElem? hx)
        have i1 := ix_sl (o := o) (es := 3) (rowsV_get hx)
        have hd : decide ((i : Int) < (j : Int)) = true := by simp; omega
        have hm := mid_eq (i := i) (j := j) (by omega) (by omega)
        rw [go_loop]
        by_cases hc : x.1 - f < 0
        · have hw : IntKind.i64.wrap ((((i + j) / 2 : Nat) : Int) + 1) = (((i + j) / 2 + 1 : Nat) : Int) := wrap_succ (n := 200) (by omega) (by decide)
          simp (maxSteps := 1000000) only [go_sem, b30_l0, b30_r0, r0, r1, r2, r8, r9, r10, hd, hm, i1, s31 (hs.push _) hxb.1 hxb.2.1 (show -10000 ≤ f by omega) (show f ≤ 10000 by omega), hc, hw, Nat.reduceEqDiff, reduceCtorEq, Nat.reduceAdd, Nat.reduceMul, Nat.reduceSub, Int.reduceLT, Int.reduceLE, Int.reduceEq, Int.reduceAdd, Int.reduceSub, Int.reduceNeg, Int.reduceToNat, Int.cast_ofNat_Int, ↓reduceIte]
          refine ih ((i + j) / 2 + 1) j _ (by omega) (by omega) h3 (fun q y hq hy => ?_) h5 r0 r1 r2 r8 rfl r10
          by_cases hqe : q = (i + j) / 2
          · subst hqe; rw [hx] at hy; injection hy with hy; subst hy; omega
          · have := ho.1 q ((i + j) / 2) y x (by omega) hy hx; omega
        · simp (maxSteps := 1000000) only [go_sem, b30_l0, b30_r0, r0, r1, r2, r8, r9, r10, hd, hm, i1, s31 (hs.push _) hxb.1 hxb.2.1 (show -10000 ≤ f by omega) (show f ≤ 10000 by omega), hc, Nat.reduceEqDiff, reduceCtorEq, Nat.reduceAdd, Nat.reduceMul, Nat.reduceSub, Int.reduceLT, Int.reduceLE, Int.reduceEq, Int.reduceAdd, Int.reduceSub, Int.reduceNeg, Int.reduceToNat, Int.cast_ofNat_Int, ↓reduceIte]
          refine ih i ((i + j) / 2) _ (by omega) (by omega) (by omega) h4 (fun q y hq hy => ?_) r0 r1 r2 r8 r9 rfl
          by_cases hqe : q = (i + j) / 2
          · subst hqe; rw [hx] at hy; injection hy with hy; subst hy; omega
          · have := ho.1 ((i + j) / 2) q x y (by omega) hx hy; omega
  rw [callL_go (show AP 30 = some c30 from rfl) rfl]
  simp (maxSteps := 1000000) only [go_sem, b30, rowsV_len, Nat.reduceEqDiff, reduceCtorEq, Nat.reduceAdd, Nat.reduceMul, Nat.reduceSub, Int.reduceLT, Int.reduceLE, Int.reduceEq, Int.reduceAdd, Int.reduceSub, Int.reduceNeg, Int.reduceToNat, Int.cast_ofNat_Int, ↓reduceIte]
  exact key l.length 0 l.length _ (by omega) (by omega) (by omega) (fun q x h => by omega) (fun q x h hx => by have := (List.getElem?_eq_some_iff.1 hx).1; omega) rfl rfl rfl rfl rfl rfl

theorem inR_pos {l : List Row} {f d : Int} {p : Nat} (ho : ordR l) (hp : Pos l f p) : inR l f d = match l[p]? with | some x => decide (x.1 = f) && wi d x.2.1 x.2.2 | none => false := by
  rw [Bool.eq_iff_iff]
  simp only [inR, List.any_eq_true, Bool.and_eq_true, decide_eq_true_eq]
  constructor
  · rintro ⟨x, hx, he, hw⟩
    obtain ⟨i, hi⟩ := List.getElem?_of_mem hx
    have : i = p := by
      apply Classical.byContradiction
      intro hne
      by_cases hlt : i < p
      · have := hp.2.1 i x hlt hi; omega
      · have hpl : p < l.length := by have := (List.getElem?_eq_some_iff.1 hi).1; omega
        obtain ⟨y, hy⟩ := get_some hpl
        have := hp.2.2 p y (Nat.le_refl _) hy
        have := ho.1 p i y x (by omega) hy hi
        omega
    subst this
    rw [hi]
    simp [he, hw]
  · intro h
    cases hq : l[p]? with
    | none => rw [hq] at h; cases h
    | some x =>
      rw [hq] at h
      simp only [Bool.and_eq_true, decide_eq_true_eq] at h
      exact ⟨x, List.mem_of_getElem? hq, h.1, h.2⟩

theorem s29 {f e : Int} {l : List Row} {o : Own} {d b : Nat} (hs : Ok s) (hl : l.length ≤ 100) (ho : ordR l) (hf : -2048 ≤ f) (hf2 : f ≤ 2047) (hb : s.box d b = some [.slice o 3 (rowsV l)]) :
    callL AP (.fn 29) [SP f e, .ptr d b 0] s = some (B (inR l f e), s) := by
  rw [callL_go (show AP 29 = some c29 from rfl) rfl]
  have hb' := fun r => box_keep hb r
  obtain ⟨p, hp, h30⟩ := s30 (s := s.push ⟨[[I f, I e]], []⟩) (o := o) (f := f) (hs.push _) hl ho hf hf2
  rw [inR_pos ho hp]
  cases hq : l[p]? with
  | none =>
    rw [hq] at h30
    simp (maxSteps := 1000000) only [go_sem, b29, hs, hb', h30, Nat.reduceEqDiff, reduceCtorEq, Nat.reduceAdd, Nat.reduceMul, Nat.reduceSub, Int.reduceLT, Int.reduceLE, Int.reduceEq, Int.reduceAdd, Int.reduceSub, Int.reduceNeg, Int.reduceToNat, Int.cast_ofNat_Int, ↓reduceIte]
  | some x =>
    rw [hq] at h30
    have i1 := ix_sl (o := o) (es := 3) (rowsV_get hq)
    simp (maxSteps := 1000000) only [go_sem, b29, hs, hb', h30, i1, s32, Nat.reduceEqDiff, reduceCtorEq, Nat.reduceAdd, Nat.reduceMul, Nat.reduceSub, Int.reduceLT, Int.reduceLE, Int.reduceEq, Int.reduceAdd, Int.reduceSub, Int.reduceNeg, Int.reduceToNat, Int.cast_ofNat_Int, ↓reduceIte]
end
end Go.Ax.Sx.Sl
