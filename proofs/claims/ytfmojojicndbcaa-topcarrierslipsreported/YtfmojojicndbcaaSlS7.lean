import Derived.Test.YtfmojojicndbcaaSlS6
namespace Go.Ax.Sx.Sl
open Go.Ax
set_option linter.unusedSimpArgs false
set_option linter.unusedVariables false

section
variable {s : Sig}

theorem s12 {l : List Int} {o : Own} (hl : l.length ≤ 4294967296) : callL AP (.fn 12) [.slice o 1 (ints l)] s = some (.slice (copyO (ints l)) 1 (ints l), s) := by
  rw [callL_go (show AP 12 = some c12 from rfl) rfl]
  obtain ⟨x', t', h1, h2⟩ := copy_app (s := s) (r := ⟨[], []⟩) (o := o) (es := 1) (xs := ints l) rfl (by rw [ints_len]; exact hl)
  simp (maxSteps := 1000000) only [go_sem, b12, h1, h2, Nat.reduceEqDiff, reduceCtorEq, Nat.reduceAdd, Nat.reduceMul, Nat.reduceSub, Int.reduceLT, Int.reduceLE, Int.reduceEq, Int.reduceAdd, Int.reduceSub, Int.reduceNeg, Int.reduceToNat, Int.cast_ofNat_Int, ↓reduceIte]
theorem s10 {l : List Row} {o : Own} (hl : l.length ≤ 4294967296) : callL AP (.fn 10) [.slice o 3 (rowsV l)] s = some (.slice (copyO (rowsV l)) 3 (rowsV l), s) := by
  rw [callL_go (show AP 10 = some c10 from rfl) rfl]
  obtain ⟨x', t', h1, h2⟩ := copy_app (s := s) (r := ⟨[], []⟩) (o := o) (es := 3) (xs := rowsV l) rfl (by rw [rowsV_len]; exact hl)
  simp (maxSteps := 1000000) only [go_sem, b10, h1, h2, Nat.reduceEqDiff, reduceCtorEq, Nat.reduceAdd, Nat.reduceMul, Nat.reduceSub, Int.reduceLT, Int.reduceLE, Int.reduceEq, Int.reduceAdd, Int.reduceSub, Int.reduceNeg, Int.reduceToNat, Int.cast_ofNat_Int, ↓reduceIte]

abbrev has (l : List Int) (n : Int) : Bool := l.any fun x => decide (x = n)
theorem s17 {l : List Int} {n : Int} (hl : l.length ≤ 4294967296) : callL AP (.fn 17) [accV 1 (ints l), I n] s = some (B (has l n), s) := by
  have key : ∀ k ρ m, k ≤ l.length → (ρ 0 = accV 1 (ints l) ∧ ρ 1 = I n ∧ ρ 5 = I k ∧ m = s.push ⟨[], []⟩) → go AP f17 (.c (.loop b17_l0) :: k17_0) ⟨ρ, m⟩ = some (B (has (l.drop k) n), s) := by
    refine loop_up l.length _ _ ?_ ?_
    · rintro k ρ m hk ⟨h0, h1, h5, rfl⟩ ih
      obtain ⟨x, hx⟩ := get_some hk
      have hr := ix_acc (es := 1) (ints_get hx)
      simp (maxSteps := 1000000) only [go_sem, b17_l0, b17_r0, h0, h1, h5, lt_dec hk, hr, ints_len, wrap_succ hk (show (l.length : Int) < _ by omega), Nat.reduceEqDiff, reduceCtorEq, Nat.reduceAdd, Nat.reduceMul, Nat.reduceSub, Int.reduceLT, Int.reduceLE, Int.reduceEq, Int.reduceAdd, Int.reduceSub, Int.reduceNeg, Int.reduceToNat, Int.cast_ofNat_Int, ↓reduceIte]
      rw [drop_get hx]
      have e2 : has (x :: l.drop (k + 1)) n = (decide (x = n) || has (l.drop (k + 1)) n) := by simp [has]
      rw [e2]
      cases decide (x = n)
      · refine ih _ _ ?_; exact ⟨h0, h1, rfl, rfl⟩
      · rfl
    · rintro ρ m ⟨h0, h1, h5, rfl⟩
      simp (maxSteps := 1000000) only [go_sem, b17_l0, b17_r0, h0, h5, ints_len, ge_dec, Nat.reduceEqDiff, reduceCtorEq, Nat.reduceAdd, Nat.reduceMul, Nat.reduceSub, Int.reduceLT, Int.reduceLE, Int.reduceEq, Int.reduceAdd, Int.reduceSub, Int.reduceNeg, Int.reduceToNat, Int.cast_ofNat_Int, ↓reduceIte]
      rw [List.drop_length]; rfl
  rw [callL_go (show AP 17 = some c17 from rfl) rfl]
  simp (maxSteps := 1000000) only [go_sem, b17, Nat.reduceEqDiff, reduceCtorEq, Nat.reduceAdd, Nat.reduceMul, Nat.reduceSub, Int.reduceLT, Int.reduceLE, Int.reduceEq, Int.reduceAdd, Int.reduceSub, Int.reduceNeg, Int.reduceToNat, Int.cast_ofNat_Int, ↓reduceIte]
  refine key 0 _ _ (Nat.zero_le _) ?_
  exact ⟨rfl, rfl, rfl, rfl⟩

theorem s21 {a b : List Int} {o : Own} (hl : a.length = b.length) (hn : a.length ≤ 4294967296) : callL AP (.fn 21) [accV 1 (ints a), .slice o 1 (ints b)] s = some (B (decide (a = b)), s) := by
  have key : ∀ k ρ m, k ≤ a.length → (ρ 0 = accV 1 (ints a) ∧ ρ 1 = .slice o 1 (ints b) ∧ ρ 5 = I k ∧ m = s.push ⟨[], []⟩) → go AP f21 (.c (.loop b21_l0) :: k21_0) ⟨ρ, m⟩ = some (B (decide (a.drop k = b.drop k)), s) := by
    refine loop_up a.length _ _ ?_ ?_
    · rintro k ρ m hk ⟨h0, h1, h5, rfl⟩ ih
      obtain ⟨x, hx⟩ := get_some hk
      obtain ⟨y, hy⟩ := get_some (l := b) (k := k) (by omega)
      have hr := ix_acc (es := 1) (ints_get hx)
      have hr2 := ix_sl (o := o) (es := 1) (ints_get hy)
      simp (maxSteps := 1000000) only [go_sem, b21_l0, b21_r0, h0, h1, h5, lt_dec hk, hr, hr2, ints_len, ne_eq, wrap_succ hk (show (a.length : Int) < _ by omega), Nat.reduceEqDiff, reduceCtorEq, Nat.reduceAdd, Nat.reduceMul, Nat.reduceSub, Int.reduceLT, Int.reduceLE, Int.reduceEq, Int.reduceAdd, Int.reduceSub, Int.reduceNeg, Int.reduceToNat, Int.cast_ofNat_Int, ↓reduceIte]
      rw [drop_get hx, drop_get hy]
      by_cases hxy : x = y
      · subst hxy
        simp only [not_true, decide_false, List.cons.injEq, true_and]
        refine ih _ _ ?_; exact ⟨h0, h1, rfl, rfl⟩
      · simp [hxy]
    · rintro ρ m ⟨h0, h1, h5, rfl⟩
      simp (maxSteps := 1000000) only [go_sem, b21_l0, b21_r0, h0, h5, ints_len, ge_dec, Nat.reduceEqDiff, reduceCtorEq, Nat.reduceAdd, Nat.reduceMul, Nat.reduceSub, Int.reduceLT, Int.reduceLE, Int.reduceEq, Int.reduceAdd, Int.reduceSub, Int.reduceNeg, Int.reduceToNat, Int.cast_ofNat_Int, ↓reduceIte]
      simp [hl]
  rw [callL_go (show AP 21 = some c21 from rfl) rfl]
  simp (maxSteps := 1000000) only [go_sem, b21, ints_len, hl, ne_eq, not_true, Nat.reduceEqDiff, reduceCtorEq, Nat.reduceAdd, Nat.reduceMul, Nat.reduceSub, Int.reduceLT, Int.reduceLE, Int.reduceEq, Int.reduceAdd, Int.reduceSub, Int.reduceNeg, Int.reduceToNat, Int.cast_ofNat_Int, ↓reduceIte]
  refine (key 0 _ _ (Nat.zero_le _) ?_).trans (by simp)
  exact ⟨rfl, rfl, rfl, rfl⟩

/-- a sample's noise, and the step behind it -/
def inps (l : List (Int × Int)) : List (List AV) := l.map fun q => [I q.1, I q.2]
def truthL : Int → List (Int × Int) → List Int
  | _, [] => []
  | at_, x :: r => at_ :: truthL (at_ + x.2) r
def phL : Int → List (Int × Int) → List Int
  | _, [] => []
  | at_, x :: r => (at_ + x.1) % 4096 :: phL (at_ + x.2) r
def inpOk (t u n : Int) (x : Int × Int) : Prop := -n ≤ x.1 ∧ x.1 ≤ n ∧ t ≤ x.2 ∧ x.2 ≤ u

abbrev Tru (p q t u n st : Int) (X : List (Int × Int)) (s : Sig) (r : Option (AV × Sig)) : Prop :=
  (∃ v w, r = some (.tuple [v, w, B false], s)) ∨ (r = some (.tuple [.slice (copyO (ints (truthL st X))) 1 (ints (truthL st X)), .slice (copyO (ints (phL st X))) 1 (ints (phL st X)), B true], s) ∧ p ≤ st ∧ st ≤ q ∧ X.length ≤ 60 ∧ ∀ x ∈ X, inpOk t u n x)

theorem s8 {p q t u n st : Int} {X : List (Int × Int)} {o : Own} (hs : Ok s) (hcl : clErr p q t u n = 0) (hst : inI st) (hX : ∀ x ∈ X, inI x.1 ∧ inI x.2) (hlen : X.length < 9223372036854775808) :
    Tru p q t u n st X s (callL AP (.fn 8) [CL p q t u n, .agg [I st, .slice o 2 (inps X)]] s) := by
  have hn : (0 ≤ n ∧ n ≤ 100) ∧ (-2048 ≤ p ∧ p ≤ 2047) ∧ (-2048 ≤ q ∧ q ≤ 2047) ∧ (-2048 ≤ t ∧ t ≤ 2047) ∧ -2048 ≤ u ∧ u ≤ 2047 := by
    unfold clErr at hcl
    cases hq : (wi n 0 100 && wi p (-2048) 2047 && wi q (-2048) 2047 && wi t (-2048) 2047 && wi u (-2048) 2047)
    · rw [hq] at hcl; simp at hcl
    · simp only [Bool.and_eq_true, wi_iff] at hq; omega
  have hil : (inps X).length = X.length := by simp [inps]
  have hbad : ∀ v w, Tru p q t u n st X s (some (.tuple [v, w, B false], s)) := fun v w => .inl ⟨v, w, rfl⟩
  have key : ∀ (hp : p ≤ st) (hq : st ≤ q) (hx60 : X.length ≤ 60) (r : List (Int × Int)) (k : Nat) (at_ : Int) (T P : List Int) (ρ : Nat → AV) (x7 x8 : AV) (g7 g8 : Option Nat) (junk : List (List AV)) (toks : List (Option Nat)),
      X.drop k = r → k ≤ X.length → T.length = k → P.length = k → (-(5000 * (k + 1) : Int)) ≤ at_ → at_ ≤ 5000 * (k + 1) → AccF s.acts.length 1 (ints T) x7 g7 toks → AccF s.acts.length 1 (ints P) x8 g8 toks → (g7 ≠ g8 ∨ g8 = none) →
      truthL st X = T ++ truthL at_ r → phL st X = P ++ phL at_ r → (∀ i x, i < k → X[i]? = some x → inpOk t u n x) →
      ρ 2 = .ptr s.acts.length 0 0 → ρ 3 = .ptr s.acts.length 1 0 → ρ 7 = x7 → ρ 8 = x8 → ρ 9 = I at_ → ρ 10 = I k →
      Tru p q t u n st X s (go AP f8 (.c (.loop b8_l0) :: k8_0) ⟨ρ, s.push ⟨[I p, I q, I t, I u, I n] :: [I st, .slice o 2 (inps X)] :: junk, toks⟩⟩) := by
    intro hp hq hx60 r
    induction r with
    | nil =>
      intro k at_ T P ρ x7 x8 g7 g8 junk toks hr hk eT eP ha1 ha2 h7 h8 hne e1 e2 hin r2 r3 r7 r8 r9 r10
      have e : k = X.length := by
        have := congrArg List.length hr
        simp at this; omega
      subst e
      rw [go_loop]
      simp (maxSteps := 1000000) only [go_sem, b8_l0, b8_r0, r2, r3, r7, r8, r10, ge_dec, hil, h7.leave, h8.leave, Nat.reduceEqDiff, reduceCtorEq, Nat.reduceAdd, Nat.reduceMul, Nat.reduceSub, Int.reduceLT, Int.reduceLE, Int.reduceEq, Int.reduceAdd, Int.reduceSub, Int.reduceNeg, Int.reduceToNat, Int.cast_ofNat_Int, ↓reduceIte]
      refine .inr ⟨by rw [e1, e2]; simp [truthL, phL], hp, hq, hx60, fun x hx => ?_⟩
      obtain ⟨i, hi⟩ := List.getElem?_of_mem hx
      exact hin i x (List.getElem?_eq_some_iff.1 hi).1 hi
    | cons x r ih =>
      intro k at_ T P ρ x7 x8 g7 g8 junk toks hr hk eT eP ha1 ha2 h7 h8 hne e1 e2 hin r2 r3 r7 r8 r9 r10
      have hlt : k < X.length := by
        have := congrArg List.length hr
        simp at this; omega
      have hx : X[k]? = some x := by
        have := congrArg (·[0]?) hr
        simpa using this
      have hix := ix_sl (o := o) (es := 2) (xs := inps X) (k := k) (row := [I x.1, I x.2]) (by simp [inps, hx])
      rw [go_loop]
      by_cases hc : (wi x.1 (-n) n && wi x.2 t u) = true
      · have hc' := hc
        simp only [Bool.and_eq_true, wi_iff] at hc'
        have w0 := wrap_id (x := -n) (by omega) (by omega)
        have w1 := wrap_id (x := at_ + x.1) (by omega) (by omega)
        have w2 := wrap_id (x := at_ + x.2) (by omega) (by omega)
        have e26 : ∀ s, callL AP (.fn 26) [I (at_ + x.1)] s = some (I ((at_ + x.1) % 4096), s) := fun s => s26 (by omega) (by omega)
        obtain ⟨x7', g7', t1, a1, h7', n7, fr1⟩ := h7.append hs .full (ys := [[I at_]]) (by simp) (by rw [ints_len]; simp; omega)
        obtain ⟨h8a, hne1⟩ := fr1 _ _ _ _ h8 (by rcases hne with h | h; exact .inl (fun e => h e.symm); exact .inr h)
        obtain ⟨x8', g8', t2, a2, h8', n8, fr2⟩ := h8a.append hs .full (ys := [[I ((at_ + x.1) % 4096)]]) (by simp) (by rw [ints_len]; simp; omega)
        obtain ⟨h7b, hne2⟩ := fr2 _ _ _ _ h7' (.inl (fun e => hne1 e.symm))
        obtain ⟨c1, c2⟩ := Bool.and_eq_true_iff.1 hc
        simp (maxSteps := 1000000) only [go_sem, b8_l0, r2, r3, r7, r8, r9, r10, lt_dec hlt, hil, hix, hs, s18, w0, c1, c2, w1, w2, e26, a1, a2, wrap_succ hlt (show (X.length : Int) < _ by omega), Nat.reduceEqDiff, reduceCtorEq, Nat.reduceAdd, Nat.reduceMul, Nat.reduceSub, Int.reduceLT, Int.reduceLE, Int.reduceEq, Int.reduceAdd, Int.reduceSub, Int.reduceNeg, Int.reduceToNat, Int.cast_ofNat_Int, ↓reduceIte]
        refine ih (k + 1) (at_ + x.2) (T ++ [at_]) (P ++ [(at_ + x.1) % 4096]) _ x7' x8' g7' g8' (junk ++ [[I x.1, I x.2]]) t2 (by rw [← List.drop_drop, hr]; rfl) (by omega) (by simp [eT]) (by simp [eP]) (by omega) (by omega)
          (by rw [ints_app]; exact h7b) (by rw [ints_app]; exact h8') (.inl hne2) (by rw [e1]; simp [truthL]) (by rw [e2]; simp [phL]) (fun i y hi hy => ?_) ?_ ?_ ?_ ?_ ?_ ?_
        · by_cases hq : i = k
          · subst hq; rw [hx] at hy; injection hy with e; subst e; exact ⟨by omega, by omega, by omega, by omega⟩
          · exact hin i y (by omega) hy
        · exact r2
        · exact r3
        · rfl
        · rfl
        · rfl
        · rfl
      · have w0 := wrap_id (x := -n) (by omega) (by omega)
        cases c1 : wi x.1 (-n) n
        · simp (maxSteps := 1000000) only [go_sem, b8_l0, r2, r3, r7, r8, r9, r10, lt_dec hlt, hil, hix, hs, s18, w0, c1, Nat.reduceEqDiff, reduceCtorEq, Nat.reduceAdd, Nat.reduceMul, Nat.reduceSub, Int.reduceLT, Int.reduceLE, Int.reduceEq, Int.reduceAdd, Int.reduceSub, Int.reduceNeg, Int.reduceToNat, Int.cast_ofNat_Int, ↓reduceIte]
          exact hbad _ _
        · cases c2 : wi x.2 t u
          · simp (maxSteps := 1000000) only [go_sem, b8_l0, r2, r3, r7, r8, r9, r10, lt_dec hlt, hil, hix, hs, s18, w0, c1, c2, Nat.reduceEqDiff, reduceCtorEq, Nat.reduceAdd, Nat.reduceMul, Nat.reduceSub, Int.reduceLT, Int.reduceLE, Int.reduceEq, Int.reduceAdd, Int.reduceSub, Int.reduceNeg, Int.reduceToNat, Int.cast_ofNat_Int, ↓reduceIte]
            exact hbad _ _
          · rw [c1, c2] at hc; exact absurd rfl hc
  rw [callL_go (show AP 8 = some c8 from rfl) rfl]
  simp (maxSteps := 1000000) only [go_sem, b8, hs, s18, hil, Nat.reduceEqDiff, reduceCtorEq, Nat.reduceAdd, Nat.reduceMul, Nat.reduceSub, Int.reduceLT, Int.reduceLE, Int.reduceEq, Int.reduceAdd, Int.reduceSub, Int.reduceNeg, Int.reduceToNat, Int.cast_ofNat_Int, ↓reduceIte]
  cases c1 : wi st p q
  · exact hbad _ _
  · have hst2 := wi_iff.1 c1
    by_cases c2 : (60 : Int) < X.length
    · simp only [c2, decide_true, cond_true]; exact hbad _ _
    · simp only [c2, decide_false]
      refine key hst2.1 hst2.2 (by omega) X 0 st [] [] _ _ _ none none [] [] rfl (Nat.zero_le _) rfl rfl (by omega) (by omega) .start .start (.inr rfl) rfl rfl (fun i x h => by omega) ?_ ?_ ?_ ?_ ?_ ?_ <;> rfl
end
end Go.Ax.Sx.Sl
