import Derived.Test.YtfmojojicndbcaaSlS1
namespace Go.Ax.Sx.Sl
open Go.Ax
set_option linter.unusedSimpArgs false
set_option linter.unusedVariables false

section
variable {s : Sig}

theorem s36 {l : List Int} {o : Own} (hl : (l.length : Int) < 9223372036854775808) : callL AP (.fn 36) [.slice o 1 (ints l)] s = some (I (firstErr l), s) := by
  have key : ∀ k ρ m, k ≤ l.length → (ρ 5 = .slice o 1 (ints l) ∧ ρ 6 = I l.length ∧ ρ 7 = I k ∧ m = s.push ⟨[], []⟩) → go AP f36 (.c (.loop b36_l0) :: k36_0) ⟨ρ, m⟩ = some (I (firstErr (l.drop k)), s) := by
    refine loop_up l.length _ _ ?_ ?_
    · rintro k ρ m hk ⟨h5, h6, h7, rfl⟩ ih
      obtain ⟨x, hx⟩ := get_some hk
      have hr := ix_sl (o := o) (es := 1) (ints_get hx)
      simp (maxSteps := 1000000) only [go_sem, b36_l0, b36_r0, h5, h6, h7, lt_dec hk, hr, wrap_succ hk hl, Nat.reduceEqDiff, reduceCtorEq, Nat.reduceAdd, Nat.reduceMul, Nat.reduceSub, Int.reduceLT, Int.reduceLE, Int.reduceEq, Int.reduceAdd, Int.reduceSub, Int.reduceNeg, Int.reduceToNat, Int.cast_ofNat_Int, ↓reduceIte]
      rw [drop_get hx]
      by_cases h0 : x = 0
      · simp only [h0, ne_eq, not_true, decide_false, cond_false, firstErr, if_true]
        exact ih _ _ ⟨h5, h6, rfl, rfl⟩
      · simp [h0, firstErr]
    · rintro ρ m ⟨h5, h6, h7, rfl⟩
      simp (maxSteps := 1000000) only [go_sem, b36_l0, b36_r0, h5, h6, h7, ge_dec, Nat.reduceEqDiff, reduceCtorEq, Nat.reduceAdd, Nat.reduceMul, Nat.reduceSub, Int.reduceLT, Int.reduceLE, Int.reduceEq, Int.reduceAdd, Int.reduceSub, Int.reduceNeg, Int.reduceToNat, Int.cast_ofNat_Int, ↓reduceIte]
      rw [List.drop_length]; rfl
  rw [callL_go (show AP 36 = some c36 from rfl) rfl]
  simp (maxSteps := 1000000) only [go_sem, b36, ints_len, Nat.reduceEqDiff, reduceCtorEq, Nat.reduceAdd, Nat.reduceMul, Nat.reduceSub, Int.reduceLT, Int.reduceLE, Int.reduceEq, Int.reduceAdd, Int.reduceSub, Int.reduceNeg, Int.reduceToNat, Int.cast_ofNat_Int, ↓reduceIte]
  exact key 0 _ _ (Nat.zero_le _) ⟨rfl, rfl, rfl, rfl⟩

/-- where the first one is -/
def idxOf (p : Int → Bool) : List Int → Nat → Int
  | [], _ => -1
  | x :: r, k => if p x then k else idxOf p r (k + 1)
theorem idxOf_any (p : Int → Bool) : ∀ (l : List Int) (k : Nat), decide (0 ≤ idxOf p l k) = l.any p
  | [], k => rfl
  | x :: r, k => by
    simp only [idxOf, List.any_cons]
    by_cases h : p x = true
    · simp [h]
    · simp [h, idxOf_any p r (k + 1)]

theorem s57 {l : List Int} {o : Own} {g : FuncId} {p : Int → Bool} (hl : (l.length : Int) < 9223372036854775808) (hg : ∀ x s, callL AP (.fn g) [I x] s = some (B (p x), s)) :
    callL AP (.fn 57) [.slice o 1 (ints l), .fn g [] []] s = some (I (idxOf p l 0), s) := by
  have key : ∀ k ρ m, k ≤ l.length → (ρ 0 = .slice o 1 (ints l) ∧ ρ 1 = .fn g [] [] ∧ ρ 7 = I l.length ∧ ρ 8 = I k ∧ m = s.push ⟨[], []⟩) → go AP f57 (.c (.loop b57_l0) :: k57_0) ⟨ρ, m⟩ = some (I (idxOf p (l.drop k) k), s) := by
    refine loop_up l.length _ _ ?_ ?_
    · rintro k ρ m hk ⟨h0, h1, h7, h8, rfl⟩ ih
      obtain ⟨x, hx⟩ := get_some hk
      have hr := ix_sl (o := o) (es := 1) (ints_get hx)
      simp (maxSteps := 1000000) only [go_sem, b57_l0, b57_r0, h0, h1, h7, h8, lt_dec hk, hr, hg, wrap_succ hk hl, Nat.reduceEqDiff, reduceCtorEq, Nat.reduceAdd, Nat.reduceMul, Nat.reduceSub, Int.reduceLT, Int.reduceLE, Int.reduceEq, Int.reduceAdd, Int.reduceSub, Int.reduceNeg, Int.reduceToNat, Int.cast_ofNat_Int, ↓reduceIte]
      rw [drop_get hx, idxOf]
      cases hp : p x
      · exact ih _ _ ⟨h0, h1, h7, rfl, rfl⟩
      · rfl
    · rintro ρ m ⟨h0, h1, h7, h8, rfl⟩
      simp (maxSteps := 1000000) only [go_sem, b57_l0, b57_r0, h7, h8, ge_dec, Nat.reduceEqDiff, reduceCtorEq, Nat.reduceAdd, Nat.reduceMul, Nat.reduceSub, Int.reduceLT, Int.reduceLE, Int.reduceEq, Int.reduceAdd, Int.reduceSub, Int.reduceNeg, Int.reduceToNat, Int.cast_ofNat_Int, ↓reduceIte]
      rw [List.drop_length]; rfl
  rw [callL_go (show AP 57 = some c57 from rfl) rfl]
  simp (maxSteps := 1000000) only [go_sem, b57, ints_len, Nat.reduceEqDiff, reduceCtorEq, Nat.reduceAdd, Nat.reduceMul, Nat.reduceSub, Int.reduceLT, Int.reduceLE, Int.reduceEq, Int.reduceAdd, Int.reduceSub, Int.reduceNeg, Int.reduceToNat, Int.cast_ofNat_Int, ↓reduceIte]
  exact key 0 _ _ (Nat.zero_le _) ⟨rfl, rfl, rfl, rfl, rfl⟩
theorem s42 {l : List Int} {o : Own} {g : FuncId} {p : Int → Bool} (hl : (l.length : Int) < 9223372036854775808) (hg : ∀ x s, callL AP (.fn g) [I x] s = some (B (p x), s)) :
    callL AP (.fn 42) [.slice o 1 (ints l), .fn g [] []] s = some (B (l.any p), s) := by
  rw [callL_go (show AP 42 = some c42 from rfl) rfl]
  simp (maxSteps := 1000000) only [go_sem, b42, s57 hl hg, Nat.reduceEqDiff, reduceCtorEq, Nat.reduceAdd, Nat.reduceMul, Nat.reduceSub, Int.reduceLT, Int.reduceLE, Int.reduceEq, Int.reduceAdd, Int.reduceSub, Int.reduceNeg, Int.reduceToNat, Int.cast_ofNat_Int, ↓reduceIte]
  rw [idxOf_any]

abbrev phOk (l : List Int) : Bool := !(l.any fun x => !wi x 0 4095)
theorem s40 {l : List Int} {o : Own} (hl : (l.length : Int) < 9223372036854775808) :
    callL AP (.fn 40) [.slice o 1 (ints l)] s = some (I (cond (decide ((l.length : Int) ≤ 200)) (cond (phOk l) 0 2) 8), s) := by
  rw [callL_go (show AP 40 = some c40 from rfl) rfl]
  have h36 : ∀ (a b : Int) (s : Sig), callL AP (.fn 36) [.slice .full 1 [[I a], [I b]]] s = some (I (firstErr [a, b]), s) := fun a b s => s36 (l := [a, b]) (show (2 : Int) < _ by decide)
  simp (maxSteps := 1000000) only [go_sem, b40, s42 hl (fun x s => s54 (a := x)), s38, ints_len, h36, Nat.reduceEqDiff, reduceCtorEq, Nat.reduceAdd, Nat.reduceMul, Nat.reduceSub, Int.reduceLT, Int.reduceLE, Int.reduceEq, Int.reduceAdd, Int.reduceSub, Int.reduceNeg, Int.reduceToNat, Int.cast_ofNat_Int, ↓reduceIte]
  unfold phOk
  cases decide ((l.length : Int) ≤ 200) <;> cases (l.any fun x => !wi x 0 4095) <;> rfl

abbrev CL (a b c d n : Int) : AV := .agg [I a, I b, I c, I d, I n]
def clErr (a b c d n : Int) : Int :=
  cond (wi n 0 100 && wi a (-2048) 2047 && wi b (-2048) 2047 && wi c (-2048) 2047 && wi d (-2048) 2047) (cond (decide (a ≤ b) && decide (c ≤ d)) (cond (decide (d - c < 9)) 0 8) 9) 2
theorem s6 {a b c d n : Int} (hs : Ok s) : callL AP (.fn 6) [CL a b c d n] s = some (I (clErr a b c d n), s) := by
  rw [callL_go (show AP 6 = some c6 from rfl) rfl]
  simp (maxSteps := 1000000) only [go_sem, b6, s18, s22, hs, Nat.reduceEqDiff, reduceCtorEq, Nat.reduceAdd, Nat.reduceMul, Nat.reduceSub, Int.reduceLT, Int.reduceLE, Int.reduceEq, Int.reduceAdd, Int.reduceSub, Int.reduceNeg, Int.reduceToNat, Int.cast_ofNat_Int, ↓reduceIte]
  unfold clErr
  rw [dec_lt a b, dec_lt c d, dec_lt 9 (IntKind.i64.wrap (d - c)) |> fun h => (show decide (9 ≤ IntKind.i64.wrap (d - c)) = !decide (IntKind.i64.wrap (d - c) < 9) by simp [dec_lt])]
  by_cases hok : (wi a (-2048) 2047 && wi b (-2048) 2047 && wi c (-2048) 2047 && wi d (-2048) 2047) = true
  · have hok' := hok
    simp only [Bool.and_eq_true, wi_iff] at hok'
    rw [wrap_id (x := d - c) (by omega) (by omega)]
    simp only [Bool.and_eq_true] at hok
    obtain ⟨⟨⟨h1, h2⟩, h3⟩, h4⟩ := hok
    simp only [h1, h2, h3, h4]
    cases wi n 0 100 <;> cases decide (a ≤ b) <;> cases decide (c ≤ d) <;> cases decide (d - c < 9) <;> rfl
  · cases h1 : wi a (-2048) 2047 <;> cases h2 : wi b (-2048) 2047 <;> cases h3 : wi c (-2048) 2047 <;> cases h4 : wi d (-2048) 2047 <;> cases wi n 0 100 <;> first | rfl | (simp [h1, h2, h3, h4] at hok)

theorem s49 {a b c d n : Int} (hs : Ok s) : callL AP (.fn 49) [CL a b c d n] s = some (I (clErr a b c d n), s) := by
  rw [callL_go (show AP 49 = some c49 from rfl) rfl]
  have h36 : ∀ (a b c : Int) (s : Sig), callL AP (.fn 36) [.slice .full 1 [[I a], [I b], [I c]]] s = some (I (firstErr [a, b, c]), s) := fun a b c s => s36 (l := [a, b, c]) (show (3 : Int) < _ by decide)
  simp (maxSteps := 1000000) only [go_sem, b49, b49_l0, b49_r0, go_loop, s32, s51, s38, h36, hs, Nat.reduceEqDiff, reduceCtorEq, Nat.reduceAdd, Nat.reduceMul, Nat.reduceSub, Int.reduceLT, Int.reduceLE, Int.reduceEq, Int.reduceAdd, Int.reduceSub, Int.reduceNeg, Int.reduceToNat, Int.cast_ofNat_Int, ↓reduceIte]
  unfold clErr
  by_cases hok : (wi a (-2048) 2047 && wi b (-2048) 2047 && wi c (-2048) 2047 && wi d (-2048) 2047) = true
  · have hok' := hok
    simp only [Bool.and_eq_true, wi_iff] at hok'
    rw [wrap_id (x := d - c) (by omega) (by omega)]
    cases wi n 0 100 && wi a (-2048) 2047 && wi b (-2048) 2047 && wi c (-2048) 2047 && wi d (-2048) 2047 <;> cases decide (a ≤ b) && decide (c ≤ d) <;> cases decide (d - c < 9) <;> rfl
  · have : (wi n 0 100 && wi a (-2048) 2047 && wi b (-2048) 2047 && wi c (-2048) 2047 && wi d (-2048) 2047) = false := by
      cases h1 : wi a (-2048) 2047 <;> cases h2 : wi b (-2048) 2047 <;> cases h3 : wi c (-2048) 2047 <;> cases h4 : wi d (-2048) 2047 <;> cases wi n 0 100 <;> first | rfl | (simp [h1, h2, h3, h4] at hok)
    rw [this]; rfl

/-- the phase error, from -2048 to 2047 -/
def sgn (n : Int) : Int := (n + 2048) % 4096 - 2048
theorem sgn_bd (n : Int) : -2048 ≤ sgn n ∧ sgn n ≤ 2047 := by unfold sgn; omega

abbrev SP (p f : Int) : AV := .agg [I p, I f]
theorem s41 {a b c d p f x : Int} (hs : Ok s) (hl : loopOk a b c d = true) (hf : -2048 ≤ f) (hf2 : f ≤ 2047) (hp : -1000000000000000 ≤ p) (hp2 : p ≤ 1000000000000000) (hx : -1000000000000000 ≤ x) (hx2 : x ≤ 1000000000000000) :
    callL AP (.fn 41) [LP a b c d, SP p f, I x] s = some (.tuple [SP (p + stepA a b c d f (sgn (x - p))) (stepF a b c d f (sgn (x - p))), I (sgn (x - p))], s) := by
  rw [callL_go (show AP 41 = some c41 from rfl) rfl]
  have hb := sgn_bd (x - p)
  have w1 := wrap_id (x := x - p) (by omega) (by omega)
  have e1 : ∀ s, callL AP (.fn 56) [I (x - p)] s = some (I (sgn (x - p)), s) := fun s => s56 (by omega) (by omega)
  have e2 : ∀ r, callL AP (.fn 53) [LP a b c d, I f, I (sgn (x - p))] (s.push r) = some (.tuple [I (stepF a b c d f (sgn (x - p))), I (stepA a b c d f (sgn (x - p)))], s.push r) := fun r => s53 (hs.push r) hl hf hf2 (by omega) (by omega)
  have hA := stepA_bd (f := f) (e := sgn (x - p)) hl (by omega) (by omega)
  have w2 := wrap_id (x := p + stepA a b c d f (sgn (x - p))) (by omega) (by omega)
  simp (maxSteps := 1000000) only [go_sem, b41, hs, w1, e1, e2, w2, Nat.reduceEqDiff, reduceCtorEq, Nat.reduceAdd, Nat.reduceMul, Nat.reduceSub, Int.reduceLT, Int.reduceLE, Int.reduceEq, Int.reduceAdd, Int.reduceSub, Int.reduceNeg, Int.reduceToNat, Int.cast_ofNat_Int, ↓reduceIte]
  done
end
end Go.Ax.Sx.Sl
