import Derived.Test.YtfmojojicndbcaaSxC
import Derived.Test.YtfmojojicndbcaaSlCode
namespace Go.Ax.Sx.Sl
open Go.Ax
set_option linter.unusedSimpArgs false
set_option linter.unusedVariables false

section
variable {s : Sig}

def wi (n lo hi : Int) : Bool := decide (lo ≤ n) && decide (n ≤ hi)
theorem wi_iff {n lo hi : Int} : wi n lo hi = true ↔ lo ≤ n ∧ n ≤ hi := by simp [wi]

theorem s18 {a b c : Int} : callL AP (.fn 18) [I a, I b, I c] s = some (B (wi a b c), s) := by
  rw [callL_go (show AP 18 = some c18 from rfl) rfl]
  simp (maxSteps := 1000000) only [go_sem, b18, Nat.reduceEqDiff, reduceCtorEq, Nat.reduceAdd, Nat.reduceMul, Nat.reduceSub, Int.reduceLT, Int.reduceLE, Int.reduceEq, Int.reduceAdd, Int.reduceSub, Int.reduceNeg, Int.reduceToNat, Int.cast_ofNat_Int, ↓reduceIte]
  unfold wi
  cases decide (b ≤ a) <;> cases decide (a ≤ c) <;> rfl
theorem s32 {a b c : Int} : callL AP (.fn 32) [I a, I b, I c] s = some (B (wi a b c), s) := by
  rw [callL_go (show AP 32 = some c32 from rfl) rfl]
  simp (maxSteps := 1000000) only [go_sem, b32, Nat.reduceEqDiff, reduceCtorEq, Nat.reduceAdd, Nat.reduceMul, Nat.reduceSub, Int.reduceLT, Int.reduceLE, Int.reduceEq, Int.reduceAdd, Int.reduceSub, Int.reduceNeg, Int.reduceToNat, Int.cast_ofNat_Int, ↓reduceIte]
  unfold wi
  cases decide (b ≤ a) <;> cases decide (a ≤ c) <;> rfl
theorem s22 {a : Int} : callL AP (.fn 22) [I a] s = some (B (wi a (-2048) 2047), s) := by
  rw [callL_go (show AP 22 = some c22 from rfl) rfl]
  simp (maxSteps := 1000000) only [go_sem, b22, s18, Nat.reduceEqDiff, reduceCtorEq, Nat.reduceAdd, Nat.reduceMul, Nat.reduceSub, Int.reduceLT, Int.reduceLE, Int.reduceEq, Int.reduceAdd, Int.reduceSub, Int.reduceNeg, Int.reduceToNat, Int.cast_ofNat_Int, ↓reduceIte]
theorem s46 {a : Int} : callL AP (.fn 46) [I a] s = some (B (wi a (-1000000000000) 1000000000000), s) := by
  rw [callL_go (show AP 46 = some c46 from rfl) rfl]
  simp (maxSteps := 1000000) only [go_sem, b46, s18, Nat.reduceEqDiff, reduceCtorEq, Nat.reduceAdd, Nat.reduceMul, Nat.reduceSub, Int.reduceLT, Int.reduceLE, Int.reduceEq, Int.reduceAdd, Int.reduceSub, Int.reduceNeg, Int.reduceToNat, Int.cast_ofNat_Int, ↓reduceIte]
theorem s44 {a : Int} : callL AP (.fn 44) [I a] s = some (B (wi a (-1000000000000) 1000000000000), s) := by
  rw [callL_go (show AP 44 = some c44 from rfl) rfl]
  simp (maxSteps := 1000000) only [go_sem, b44, s32, Nat.reduceEqDiff, reduceCtorEq, Nat.reduceAdd, Nat.reduceMul, Nat.reduceSub, Int.reduceLT, Int.reduceLE, Int.reduceEq, Int.reduceAdd, Int.reduceSub, Int.reduceNeg, Int.reduceToNat, Int.cast_ofNat_Int, ↓reduceIte]
theorem s51 {a : Int} : callL AP (.fn 51) [I a] s = some (B (wi a (-2048) 2047), s) := by
  rw [callL_go (show AP 51 = some c51 from rfl) rfl]
  simp (maxSteps := 1000000) only [go_sem, b51, s32, Nat.reduceEqDiff, reduceCtorEq, Nat.reduceAdd, Nat.reduceMul, Nat.reduceSub, Int.reduceLT, Int.reduceLE, Int.reduceEq, Int.reduceAdd, Int.reduceSub, Int.reduceNeg, Int.reduceToNat, Int.cast_ofNat_Int, ↓reduceIte]
theorem s50 {a : Int} : callL AP (.fn 50) [I a] s = some (B (wi a (-2048) 2047), s) := by
  rw [callL_go (show AP 50 = some c50 from rfl) rfl]
  simp (maxSteps := 1000000) only [go_sem, b50, s51, Nat.reduceEqDiff, reduceCtorEq, Nat.reduceAdd, Nat.reduceMul, Nat.reduceSub, Int.reduceLT, Int.reduceLE, Int.reduceEq, Int.reduceAdd, Int.reduceSub, Int.reduceNeg, Int.reduceToNat, Int.cast_ofNat_Int, ↓reduceIte]
theorem s55 {a : Int} : callL AP (.fn 55) [I a] s = some (B (wi a 0 4095), s) := by
  rw [callL_go (show AP 55 = some c55 from rfl) rfl]
  simp (maxSteps := 1000000) only [go_sem, b55, s32, Nat.reduceEqDiff, reduceCtorEq, Nat.reduceAdd, Nat.reduceMul, Nat.reduceSub, Int.reduceLT, Int.reduceLE, Int.reduceEq, Int.reduceAdd, Int.reduceSub, Int.reduceNeg, Int.reduceToNat, Int.cast_ofNat_Int, ↓reduceIte]
theorem s54 {a : Int} : callL AP (.fn 54) [I a] s = some (B (!wi a 0 4095), s) := by
  rw [callL_go (show AP 54 = some c54 from rfl) rfl]
  simp (maxSteps := 1000000) only [go_sem, b54, s55, Nat.reduceEqDiff, reduceCtorEq, Nat.reduceAdd, Nat.reduceMul, Nat.reduceSub, Int.reduceLT, Int.reduceLE, Int.reduceEq, Int.reduceAdd, Int.reduceSub, Int.reduceNeg, Int.reduceToNat, Int.cast_ofNat_Int, ↓reduceIte]
theorem s43 {a : Int} : callL AP (.fn 43) [I a] s = some (B (!wi a (-1000000000000) 1000000000000), s) := by
  rw [callL_go (show AP 43 = some c43 from rfl) rfl]
  simp (maxSteps := 1000000) only [go_sem, b43, s44, Nat.reduceEqDiff, reduceCtorEq, Nat.reduceAdd, Nat.reduceMul, Nat.reduceSub, Int.reduceLT, Int.reduceLE, Int.reduceEq, Int.reduceAdd, Int.reduceSub, Int.reduceNeg, Int.reduceToNat, Int.cast_ofNat_Int, ↓reduceIte]
theorem s38 {c : Bool} {e : Int} : callL AP (.fn 38) [B c, I e] s = some (I (cond c 0 e), s) := by
  rw [callL_go (show AP 38 = some c38 from rfl) rfl]
  simp (maxSteps := 1000000) only [go_sem, b38, Nat.reduceEqDiff, reduceCtorEq, Nat.reduceAdd, Nat.reduceMul, Nat.reduceSub, Int.reduceLT, Int.reduceLE, Int.reduceEq, Int.reduceAdd, Int.reduceSub, Int.reduceNeg, Int.reduceToNat, Int.cast_ofNat_Int, ↓reduceIte]
  cases c <;> rfl

theorem s45 {n b : Int} (h1 : -1152921504606846976 ≤ n) (h2 : n ≤ 1152921504606846976) (hb : 0 < b) (hb2 : b ≤ 1152921504606846976) : callL AP (.fn 45) [I n, I b] s = some (I (n / b), s) := by
  rw [callL_go (show AP 45 = some c45 from rfl) rfl]
  have hq := tdiv_bound hb _ h1 h2
  have w1 := wrap_id (x := n.tdiv b) (by omega) (by omega)
  have w2 := wrap_id (x := n.tdiv b - 1) (by omega) (by omega)
  have hb0 : (b == 0) = false := by simp; omega
  simp (maxSteps := 1000000) only [go_sem, b45, hb0, w1, w2, Nat.reduceEqDiff, reduceCtorEq, Nat.reduceAdd, Nat.reduceMul, Nat.reduceSub, Int.reduceLT, Int.reduceLE, Int.reduceEq, Int.reduceAdd, Int.reduceSub, Int.reduceNeg, Int.reduceToNat, Int.cast_ofNat_Int, ↓reduceIte]
  rw [← tdiv_pos hb]
  by_cases h : n.tmod b < 0 <;> simp [h]
theorem s58 {n b : Int} (h1 : -1152921504606846976 ≤ n) (h2 : n ≤ 1152921504606846976) (hb : 0 < b) (hb2 : b ≤ 1152921504606846976) : callL AP (.fn 58) [I n, I b] s = some (I (n / b), s) := by
  rw [callL_go (show AP 58 = some c58 from rfl) rfl]
  have hq := tdiv_bound hb _ h1 h2
  have w1 := wrap_id (x := n.tdiv b) (by omega) (by omega)
  have w2 := wrap_id (x := n.tdiv b - 1) (by omega) (by omega)
  have hb0 : (b == 0) = false := by simp; omega
  simp (maxSteps := 1000000) only [go_sem, b58, hb0, w1, w2, Nat.reduceEqDiff, reduceCtorEq, Nat.reduceAdd, Nat.reduceMul, Nat.reduceSub, Int.reduceLT, Int.reduceLE, Int.reduceEq, Int.reduceAdd, Int.reduceSub, Int.reduceNeg, Int.reduceToNat, Int.cast_ofNat_Int, ↓reduceIte]
  rw [← tdiv_pos hb]
  by_cases h : n.tmod b < 0 <;> simp [h]
theorem s48 {n b : Int} (h1 : -1152921504606846976 ≤ n) (h2 : n ≤ 1152921504606846976) (hb : 0 < b) (hb2 : b ≤ 1152921504606846976) : callL AP (.fn 48) [I n, I b] s = some (I (n % b), s) := by
  rw [callL_go (show AP 48 = some c48 from rfl) rfl]
  have hq := tdiv_bound hb _ h1 h2
  have w1 := wrap_id (x := n.tmod b + b) (by omega) (by omega)
  have hb0 : (b == 0) = false := by simp; omega
  simp (maxSteps := 1000000) only [go_sem, b48, hb0, w1, Nat.reduceEqDiff, reduceCtorEq, Nat.reduceAdd, Nat.reduceMul, Nat.reduceSub, Int.reduceLT, Int.reduceLE, Int.reduceEq, Int.reduceAdd, Int.reduceSub, Int.reduceNeg, Int.reduceToNat, Int.cast_ofNat_Int, ↓reduceIte]
  rw [← tmod_pos hb]
  by_cases h : n.tmod b < 0 <;> simp [h]
theorem s59 {n b : Int} (h1 : -1152921504606846976 ≤ n) (h2 : n ≤ 1152921504606846976) (hb : 0 < b) (hb2 : b ≤ 1152921504606846976) : callL AP (.fn 59) [I n, I b] s = some (I (n % b), s) := by
  rw [callL_go (show AP 59 = some c59 from rfl) rfl]
  have e := Int.mul_ediv_add_emod n b
  have a1 := Int.emod_nonneg n (show b ≠ 0 by omega)
  have a2 := Int.emod_lt_of_pos n hb
  have w1 := wrap_id (x := b * (n / b)) (by omega) (by omega)
  have w2 := wrap_id (x := n - b * (n / b)) (by omega) (by omega)
  simp (maxSteps := 1000000) only [go_sem, b59, s45 h1 h2 hb hb2, w1, w2, Nat.reduceEqDiff, reduceCtorEq, Nat.reduceAdd, Nat.reduceMul, Nat.reduceSub, Int.reduceLT, Int.reduceLE, Int.reduceEq, Int.reduceAdd, Int.reduceSub, Int.reduceNeg, Int.reduceToNat, Int.cast_ofNat_Int, ↓reduceIte]
  congr 3; congr 1; omega
theorem s26 {n : Int} (h1 : -1152921504606846976 ≤ n) (h2 : n ≤ 1152921504606846976) : callL AP (.fn 26) [I n] s = some (I (n % 4096), s) := by
  rw [callL_go (show AP 26 = some c26 from rfl) rfl]
  simp (maxSteps := 1000000) only [go_sem, b26, s48 h1 h2 (show (0 : Int) < 4096 by decide) (by decide), Nat.reduceEqDiff, reduceCtorEq, Nat.reduceAdd, Nat.reduceMul, Nat.reduceSub, Int.reduceLT, Int.reduceLE, Int.reduceEq, Int.reduceAdd, Int.reduceSub, Int.reduceNeg, Int.reduceToNat, Int.cast_ofNat_Int, ↓reduceIte]
theorem s56 {n : Int} (h1 : -1000000000000000000 ≤ n) (h2 : n ≤ 1000000000000000000) : callL AP (.fn 56) [I n] s = some (I ((n + 2048) % 4096 - 2048), s) := by
  rw [callL_go (show AP 56 = some c56 from rfl) rfl]
  have w1 := wrap_id (x := n + 2048) (by omega) (by omega)
  have w2 := wrap_id (x := (n + 2048) % 4096 - 2048) (by omega) (by omega)
  simp (maxSteps := 1000000) only [go_sem, b56, w1, w2, s59 (show -1152921504606846976 ≤ n + 2048 by omega) (by omega) (show (0 : Int) < 4096 by decide) (by decide), Nat.reduceEqDiff, reduceCtorEq, Nat.reduceAdd, Nat.reduceMul, Nat.reduceSub, Int.reduceLT, Int.reduceLE, Int.reduceEq, Int.reduceAdd, Int.reduceSub, Int.reduceNeg, Int.reduceToNat, Int.cast_ofNat_Int, ↓reduceIte]
theorem s39 {n : Int} (h1 : -1152921504606846976 ≤ n) (h2 : n ≤ 1152921504606846976) : callL AP (.fn 39) [I n] s = some (I (max n (-n)), s) := by
  rw [callL_go (show AP 39 = some c39 from rfl) rfl]
  simp (maxSteps := 1000000) only [go_sem, b39, wrap_id (show -9223372036854775808 ≤ -n by omega) (by omega), Nat.reduceEqDiff, reduceCtorEq, Nat.reduceAdd, Nat.reduceMul, Nat.reduceSub, Int.reduceLT, Int.reduceLE, Int.reduceEq, Int.reduceAdd, Int.reduceSub, Int.reduceNeg, Int.reduceToNat, Int.cast_ofNat_Int, ↓reduceIte]
theorem s16 {n : Int} (h1 : -1152921504606846976 ≤ n) (h2 : n ≤ 1152921504606846976) : callL AP (.fn 16) [I n] s = some (I (max n (-n)), s) := by
  rw [callL_go (show AP 16 = some c16 from rfl) rfl]
  simp (maxSteps := 1000000) only [go_sem, b16, wrap_id (show -9223372036854775808 ≤ -n by omega) (by omega), Nat.reduceEqDiff, reduceCtorEq, Nat.reduceAdd, Nat.reduceMul, Nat.reduceSub, Int.reduceLT, Int.reduceLE, Int.reduceEq, Int.reduceAdd, Int.reduceSub, Int.reduceNeg, Int.reduceToNat, Int.cast_ofNat_Int, ↓reduceIte]

abbrev LP (a b c d : Int) : AV := .agg [I a, I b, I c, I d]
def loopOk (a b c d : Int) : Bool := wi a 0 1000 && wi b 0 1000 && wi c 1 1000 && wi d (-2048) 2047

theorem s5 {a b c d : Int} (hs : Ok s) : callL AP (.fn 5) [LP a b c d] s = some (I (cond (loopOk a b c d) 0 2), s) := by
  rw [callL_go (show AP 5 = some c5 from rfl) rfl]
  simp (maxSteps := 1000000) only [go_sem, b5, s18, s22, hs, Nat.reduceEqDiff, reduceCtorEq, Nat.reduceAdd, Nat.reduceMul, Nat.reduceSub, Int.reduceLT, Int.reduceLE, Int.reduceEq, Int.reduceAdd, Int.reduceSub, Int.reduceNeg, Int.reduceToNat, Int.cast_ofNat_Int, ↓reduceIte]
  unfold loopOk
  cases wi a 0 1000 <;> cases wi b 0 1000 <;> cases wi c 1 1000 <;> cases wi d (-2048) 2047 <;> rfl
theorem s37 {a b c d : Int} (hs : Ok s) : callL AP (.fn 37) [LP a b c d] s = some (I (cond (loopOk a b c d) 0 2), s) := by
  rw [callL_go (show AP 37 = some c37 from rfl) rfl]
  simp (maxSteps := 1000000) only [go_sem, b37, s32, s50, s38, hs, Nat.reduceEqDiff, reduceCtorEq, Nat.reduceAdd, Nat.reduceMul, Nat.reduceSub, Int.reduceLT, Int.reduceLE, Int.reduceEq, Int.reduceAdd, Int.reduceSub, Int.reduceNeg, Int.reduceToNat, Int.cast_ofNat_Int, ↓reduceIte]
  unfold loopOk
  cases wi a 0 1000 <;> cases wi b 0 1000 <;> cases wi c 1 1000 <;> cases wi d (-2048) 2047 <;> rfl

/-- The frequency and what is added. -/
def stepF (a b c d f e : Int) : Int := min (max (f + e * b / c) (-2048)) 2047
def stepA (a b c d f e : Int) : Int := stepF a b c d f e + e * a / c

theorem mul_small {e b : Int} (h1 : -100000 ≤ e) (h2 : e ≤ 100000) (hb : 0 ≤ b) (hb2 : b ≤ 1000) : -100000000 ≤ e * b ∧ e * b ≤ 100000000 := by
  have k1 := Int.mul_le_mul_of_nonneg_right h1 hb
  have k2 := Int.mul_le_mul_of_nonneg_right h2 hb
  omega
theorem stepA_bd {a b c d f e : Int} (hl : loopOk a b c d = true) (he : -100000 ≤ e) (he2 : e ≤ 100000) : -200000000 ≤ stepA a b c d f e ∧ stepA a b c d f e ≤ 200000000 := by
  simp only [loopOk, Bool.and_eq_true, wi_iff] at hl
  obtain ⟨⟨⟨ha, hb⟩, hc⟩, hd⟩ := hl
  have m2 := mul_small he he2 ha.1 ha.2
  have d2 := ediv_bound (n := e * a) (b := c) (by omega) 100000000 (by omega) (by omega)
  unfold stepA stepF; omega
theorem stepF_bd {a b c d f e : Int} : -2048 ≤ stepF a b c d f e ∧ stepF a b c d f e ≤ 2047 := by unfold stepF; omega
theorem s53 {a b c d f e : Int} (hs : Ok s) (hl : loopOk a b c d = true) (hf : -2048 ≤ f) (hf2 : f ≤ 2047) (he : -100000 ≤ e) (he2 : e ≤ 100000) :
    callL AP (.fn 53) [LP a b c d, I f, I e] s = some (.tuple [I (stepF a b c d f e), I (stepA a b c d f e)], s) := by
  rw [callL_go (show AP 53 = some c53 from rfl) rfl]
  simp only [loopOk, Bool.and_eq_true, wi_iff] at hl
  obtain ⟨⟨⟨ha, hb⟩, hc⟩, hd⟩ := hl
  have m1 := mul_small he he2 hb.1 hb.2
  have m2 := mul_small he he2 ha.1 ha.2
  have d1 := ediv_bound (n := e * b) (b := c) (by omega) 100000000 (by omega) (by omega)
  have d2 := ediv_bound (n := e * a) (b := c) (by omega) 100000000 (by omega) (by omega)
  have w1 := wrap_id (x := e * b) (by omega) (by omega)
  have w2 := wrap_id (x := f + e * b / c) (by omega) (by omega)
  have w3 := wrap_id (x := e * a) (by omega) (by omega)
  have w4 := wrap_id (x := min (max (f + e * b / c) (-2048)) 2047 + e * a / c) (by omega) (by omega)
  simp (maxSteps := 1000000) only [go_sem, b53, hs, w1, w2, w3, w4, s45 (s := s.push _) (n := e * b) (b := c) (by omega) (by omega) (by omega) (by omega), s45 (s := s.push _) (n := e * a) (b := c) (by omega) (by omega) (by omega) (by omega), Nat.reduceEqDiff, reduceCtorEq, Nat.reduceAdd, Nat.reduceMul, Nat.reduceSub, Int.reduceLT, Int.reduceLE, Int.reduceEq, Int.reduceAdd, Int.reduceSub, Int.reduceNeg, Int.reduceToNat, Int.cast_ofNat_Int, ↓reduceIte]
  rfl

end
end Go.Ax.Sx.Sl
