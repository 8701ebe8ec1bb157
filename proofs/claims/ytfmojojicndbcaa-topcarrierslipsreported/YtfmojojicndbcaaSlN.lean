import Derived.Test.YtfmojojicndbcaaSlM
namespace Go.Ax.Sx.Sl
open Go.Ax
set_option linter.unusedSimpArgs false
set_option linter.unusedVariables false

section
variable {s : Sig}

theorem reg0 : RegOk 1 0 2 0 0 0 10 10 0 [(0, 0, 20)] := by
  have ho : ordR [((0 : Int), (0 : Int), (20 : Int))] := by
    refine ⟨fun i j x y hij hx hy => ?_, fun x hx => ?_⟩
    · have h1 := (List.getElem?_eq_some_iff.1 hy).1
      simp at h1; omega
    · simp at hx; subst hx; simp
  refine ⟨ho, by decide, by decide, by decide, fun r hr e h1 h2 => ?_, fun r hr e h1 h2 w x hw hw2 hx hx2 => ?_⟩
  · simp at hr; subst hr
    simp only [Bool.and_eq_true, wi_iff]; simp at h1 h2; omega
  · simp at hr; subst hr
    simp at h1 h2
    have hw0 : w = 0 := by omega
    have hx0 : x = 10 := by omega
    subst hw0 hx0
    have e1 : stepF 1 0 2 0 0 (e + 0) = 0 := by unfold stepF; simp; omega
    have e2 : stepA 1 0 2 0 0 (e + 0) = e / 2 := by unfold stepA; rw [e1]; simp
    rw [e1, e2]
    simp only [inR, List.any_cons, List.any_nil, Bool.or_false, Bool.and_eq_true, decide_eq_true_eq, wi_iff, true_and]
    omega

theorem s4 (hs : Ok s) : callL AP (.fn 4) [] s = some (B true, s) := by
  rw [callL_go (show AP 4 = some c4 from rfl) rfl]
  have e13 : ∀ r, callL AP (.fn 13) [LP 1 0 2 0, .slice .full 1 [[I 100], [I 100], [I 100]]] (s.push r) = some (.tuple [accV 2 (sts (trackS 1 0 2 0 0 0 [100, 100, 100])), accV 1 (ints [100, 50, 25]), I 0], s.push r) := fun r => by
    refine (s13 (l := [100, 100, 100]) (o := .full) (hs.push r) (by decide)).trans ?_
    rw [trkRes_ok (by decide) (by decide) (by decide)]
    rfl
  have e9 : ∀ r, callL AP (.fn 9) [LP 1 0 2 0, CL 0 0 10 10 0, .slice .full 3 [[I 0, I 0, I 20]]] (s.push r) = some (.tuple [I 21, I 0], s.push r) := fun r => by
    refine (s9 (l := [(0, 0, 20)]) (o := .full) (hs.push r) (by decide) (by decide) (by decide) reg0).trans ?_
    rfl
  have e21 : ∀ r, callL AP (.fn 21) [accV 1 (ints [100, 50, 25]), .slice .full 1 [[I 100], [I 50], [I 25]]] (s.push r) = some (B true, s.push r) := fun r => s21 (b := [100, 50, 25]) (o := .full) rfl (by decide)
  simp (maxSteps := 1000000) only [go_sem, b4, hs, s19 (hs.push _), s20 (hs.push _), e13, e9, e21, Nat.reduceEqDiff, reduceCtorEq, Nat.reduceAdd, Nat.reduceMul, Nat.reduceSub, Int.reduceLT, Int.reduceLE, Int.reduceEq, Int.reduceAdd, Int.reduceSub, Int.reduceNeg, Int.reduceToNat, Int.cast_ofNat_Int, ↓reduceIte]

theorem trackS_get {a b c d : Int} (l : List Int) (p f : Int) {k : Nat} (h : k < l.length) : ∃ q, (trackS a b c d p f l)[k]? = some q := get_some (by rw [trackS_len]; exact h)

theorem s3_slips {T D SL : List Int} {m0 : Rec} {o : Own} (hT : T.length ≤ 60) (hD : D.length ≤ 60) (hS : SL.length ≤ 60) (h : ∀ x ∈ SL, 0 ≤ x ∧ x ≤ (T.length : Int) - 1 ∧ (has D x = true ∨ has D (x - 1) = true)) :
    ∀ k ρ m, k ≤ SL.length → (ρ 9 = .slice o 1 (ints T) ∧ ρ 17 = accV 1 (ints D) ∧ ρ 22 = accV 1 (ints SL) ∧ ρ 28 = I k ∧ m = s.push m0) → go AP f3 (.c (.loop b3_l0) :: k3_0) ⟨ρ, m⟩ = some (B true, s) := by
  refine loop_up SL.length _ _ ?_ ?_
  · rintro k ρ m hk ⟨h9, h17, h22, h28, rfl⟩ ih
    obtain ⟨x, hx⟩ := get_some hk
    have hb := h x (List.mem_of_getElem? hx)
    have hr := ix_acc (es := 1) (ints_get hx)
    have w1 := wrap_id (x := (T.length : Int) - 1) (by omega) (by omega)
    have w2 := wrap_id (x := x - 1) (by omega) (by omega)
    have e18 : wi x 0 ((T.length : Int) - 1) = true := wi_iff.2 ⟨hb.1, hb.2.1⟩
    have e17 : ∀ n s, callL AP (.fn 17) [accV 1 (ints D), I n] s = some (B (has D n), s) := fun n s => s17 (by omega)
    cases hh : has D x
    · have hh2 : has D (x - 1) = true := by rcases hb.2.2 with h | h; rw [hh] at h; cases h; exact h
      simp (maxSteps := 1000000) only [go_sem, b3_l0, h9, h17, h22, h28, ints_len, lt_dec hk, hr, w1, s18, e18, e17, hh, hh2, w2, wrap_succ hk (show (SL.length : Int) < _ by omega), Nat.reduceEqDiff, reduceCtorEq, Nat.reduceAdd, Nat.reduceMul, Nat.reduceSub, Int.reduceLT, Int.reduceLE, Int.reduceEq, Int.reduceAdd, Int.reduceSub, Int.reduceNeg, Int.reduceToNat, Int.cast_ofNat_Int, ↓reduceIte]
      refine ih _ _ ?_; exact ⟨h9, h17, h22, rfl, rfl⟩
    · simp (maxSteps := 1000000) only [go_sem, b3_l0, h9, h17, h22, h28, ints_len, lt_dec hk, hr, w1, s18, e18, e17, hh, w2, wrap_succ hk (show (SL.length : Int) < _ by omega), Nat.reduceEqDiff, reduceCtorEq, Nat.reduceAdd, Nat.reduceMul, Nat.reduceSub, Int.reduceLT, Int.reduceLE, Int.reduceEq, Int.reduceAdd, Int.reduceSub, Int.reduceNeg, Int.reduceToNat, Int.cast_ofNat_Int, ↓reduceIte]
      refine ih _ _ ?_; exact ⟨h9, h17, h22, rfl, rfl⟩
  · rintro ρ m ⟨h9, h17, h22, h28, rfl⟩
    simp (maxSteps := 1000000) only [go_sem, b3_l0, b3_r0, h9, h17, h22, h28, ints_len, ge_dec, Nat.reduceEqDiff, reduceCtorEq, Nat.reduceAdd, Nat.reduceMul, Nat.reduceSub, Int.reduceLT, Int.reduceLE, Int.reduceEq, Int.reduceAdd, Int.reduceSub, Int.reduceNeg, Int.reduceToNat, Int.cast_ofNat_Int, ↓reduceIte]

theorem s3_states {T D SL : List Int} {S1 : List (Int × Int)} {A : Int} {m0 : Rec} {o : Own} (hs : Ok s) (hT : T.length ≤ 60) (hD : D.length ≤ 60) (hS : SL.length ≤ 60) (hS1 : S1.length = T.length) (hA : 0 ≤ A) (hA2 : A ≤ 2048)
    (h : ∀ x ∈ SL, 0 ≤ x ∧ x ≤ (T.length : Int) - 1 ∧ (has D x = true ∨ has D (x - 1) = true)) (hTb : ∀ y ∈ T, -1000000000 ≤ y ∧ y ≤ 1000000000) (hSb : ∀ q ∈ S1, -100000000000 ≤ q.1 ∧ q.1 ≤ 100000000000 ∧ -2048 ≤ q.2 ∧ q.2 ≤ 2047)
    (hh : ∀ (k : Nat) (q : Int × Int) (y : Int), S1[k]? = some q → T[k]? = some y → (2048 ≤ max (y - q.1) (-(y - q.1)) → has D k = true) ∧ (has D k = true → 2048 - 2 * A ≤ max (y - q.1) (-(y - q.1)))) :
    ∀ k ρ m, k ≤ S1.length → (ρ 9 = .slice o 1 (ints T) ∧ ρ 12 = I A ∧ ρ 17 = accV 1 (ints D) ∧ ρ 19 = accV 2 (sts S1) ∧ ρ 22 = accV 1 (ints SL) ∧ ρ 26 = I k ∧ m = s.push m0) → go AP f3 (.c (.loop b3_l1) :: k3_1) ⟨ρ, m⟩ = some (B true, s) := by
  refine loop_up S1.length _ _ ?_ ?_
  · rintro k ρ m hk ⟨h9, h12, h17, h19, h22, h26, rfl⟩ ih
    obtain ⟨q, hq⟩ := get_some hk
    obtain ⟨y, hy⟩ := get_some (l := T) (k := k) (by omega)
    have hqb := hSb q (List.mem_of_getElem? hq)
    have hyb := hTb y (List.mem_of_getElem? hy)
    have hkk := hh k q y hq hy
    have i1 := ix_acc (es := 2) (xs := sts S1) (k := k) (row := [I q.1, I q.2]) (by simp [sts, hq])
    have i2 := ix_sl (o := o) (es := 1) (ints_get hy)
    have e15 : ∀ r, callL AP (.fn 15) [SP q.1 q.2] (s.push r) = some (I 0, s.push r) := fun r => by
      rw [s15 (hs.push _), wi_iff.2 ⟨by omega, by omega⟩, wi_iff.2 ⟨by omega, by omega⟩]; rfl
    have w1 := wrap_id (x := y - q.1) (by omega) (by omega)
    have e16 : ∀ s, callL AP (.fn 16) [I (y - q.1)] s = some (I (max (y - q.1) (-(y - q.1))), s) := fun s => s16 (by omega) (by omega)
    have e17 : ∀ n s, callL AP (.fn 17) [accV 1 (ints D), I n] s = some (B (has D n), s) := fun n s => s17 (by omega)
    have w2 := wrap_id (x := 2 * A) (by omega) (by omega)
    have w3 := wrap_id (x := 2048 - 2 * A) (by omega) (by omega)
    have w4 := wrap_succ hk (show (S1.length : Int) < _ by omega)
    generalize max (y - q.1) (-(y - q.1)) = by_ at *
    by_cases hb : 2048 ≤ by_
    · have hD1 := hkk.1 hb
      have hno : decide (by_ < 2048 - 2 * A) = false := by simp; omega
      simp (maxSteps := 1000000) only [go_sem, b3_l1, h9, h12, h17, h19, h22, h26, sts_len, lt_dec hk, i1, i2, e15, ne_eq, not_true, w1, e16, hb, e17, hD1, w2, w3, hno, w4, Nat.reduceEqDiff, reduceCtorEq, Nat.reduceAdd, Nat.reduceMul, Nat.reduceSub, Int.reduceLT, Int.reduceLE, Int.reduceEq, Int.reduceAdd, Int.reduceSub, Int.reduceNeg, Int.reduceToNat, Int.cast_ofNat_Int, ↓reduceIte]
      refine ih _ _ ?_; exact ⟨h9, h12, h17, h19, h22, rfl, rfl⟩
    · cases hD1 : has D k
      · simp (maxSteps := 1000000) only [go_sem, b3_l1, h9, h12, h17, h19, h22, h26, sts_len, lt_dec hk, i1, i2, e15, ne_eq, not_true, w1, e16, hb, e17, hD1, w2, w3, w4, Nat.reduceEqDiff, reduceCtorEq, Nat.reduceAdd, Nat.reduceMul, Nat.reduceSub, Int.reduceLT, Int.reduceLE, Int.reduceEq, Int.reduceAdd, Int.reduceSub, Int.reduceNeg, Int.reduceToNat, Int.cast_ofNat_Int, ↓reduceIte]
        refine ih _ _ ?_; exact ⟨h9, h12, h17, h19, h22, rfl, rfl⟩
      · have hno : decide (by_ < 2048 - 2 * A) = false := by have := hkk.2 hD1; simp; omega
        simp (maxSteps := 1000000) only [go_sem, b3_l1, h9, h12, h17, h19, h22, h26, sts_len, lt_dec hk, i1, i2, e15, ne_eq, not_true, w1, e16, hb, e17, hD1, w2, w3, hno, w4, Nat.reduceEqDiff, reduceCtorEq, Nat.reduceAdd, Nat.reduceMul, Nat.reduceSub, Int.reduceLT, Int.reduceLE, Int.reduceEq, Int.reduceAdd, Int.reduceSub, Int.reduceNeg, Int.reduceToNat, Int.cast_ofNat_Int, ↓reduceIte]
        refine ih _ _ ?_; exact ⟨h9, h12, h17, h19, h22, rfl, rfl⟩
  · rintro ρ m ⟨h9, h12, h17, h19, h22, h26, rfl⟩
    simp (maxSteps := 1000000) only [go_sem, b3_l1, b3_r1, h9, h12, h17, h19, h22, h26, sts_len, ge_dec, Nat.reduceEqDiff, reduceCtorEq, Nat.reduceAdd, Nat.reduceMul, Nat.reduceSub, Int.reduceLT, Int.reduceLE, Int.reduceEq, Int.reduceAdd, Int.reduceSub, Int.reduceNeg, Int.reduceToNat, Int.cast_ofNat_Int, ↓reduceIte]
    refine s3_slips (o := o) (m0 := m0) hT hD hS h 0 _ _ (Nat.zero_le _) ?_
    exact ⟨h9, h17, h22, rfl, rfl⟩

set_option maxRecDepth 20000 in
theorem s3 {a b c d a' b' c' d' p q t u n st : Int} {l : List Row} {X : List (Int × Int)} {o o2 : Own} (hs : Ok s)
    (hr : ∀ x ∈ l, inI x.1 ∧ inI x.2.1 ∧ inI x.2.2) (hst : inI st) (hX : ∀ x ∈ X, inI x.1 ∧ inI x.2) (hlen : X.length < 9223372036854775808) :
    callL AP (.fn 3) [LP2 a b c d a' b' c' d', .agg [I p, I q, I t, I u, I n, .slice o 3 (rowsV l)], .agg [I st, .slice o2 2 (inps X)]] s = some (B true, s) := by
  rw [callL_go (show AP 3 = some c3 from rfl) rfl]
  by_cases hA : (loopOk a b c d && loopOk a' b' c' d' && decide (clErr p q t u n = 0) && decide ((l.length : Int) ≤ 12)) = true
  · simp only [Bool.and_eq_true, decide_eq_true_eq] at hA
    obtain ⟨⟨⟨hA1, hA2⟩, hA3⟩, hA4⟩ := hA
    have hl12 : decide (12 < (l.length : Int)) = false := by simp; omega
    obtain ⟨cn, er, e7, h7⟩ := s7 (s := s.push ⟨[[I a, I b, I c, I d, I a', I b', I c', I d'], [I p, I q, I t, I u, I n, .slice o 3 (rowsV l)], [I st, .slice o2 2 (inps X)]], []⟩) (o := o) (l := l) (hs.push _) (by omega) hr hA1 hA3
    by_cases hB : er = 0 ∧ cn ≤ 300
    · obtain ⟨rfl, hcn⟩ := hB
      obtain ⟨rfl, hR⟩ := h7 rfl
      have hcn' : decide (300 < cntR l) = false := by simp; omega
      rcases s8 (s := s.push ⟨[[I a, I b, I c, I d, I a', I b', I c', I d'], [I p, I q, I t, I u, I n, .slice o 3 (rowsV l)], [I st, .slice o2 2 (inps X)]], []⟩) (o := o2) (X := X) (hs.push _) hA3 hst hX hlen with ⟨v, w, e8⟩ | ⟨e8, hp1, hp2, hX60, hXi⟩
      · simp (maxSteps := 1000000) only [go_sem, b3, hs, s4 (hs.push _), s5 (hs.push _), s6 (hs.push _), hA1, hA2, hA3, rowsV_len, hl12, e7, hcn', e8, ne_eq, not_true, Nat.reduceEqDiff, reduceCtorEq, Nat.reduceAdd, Nat.reduceMul, Nat.reduceSub, Int.reduceLT, Int.reduceLE, Int.reduceEq, Int.reduceAdd, Int.reduceSub, Int.reduceNeg, Int.reduceToNat, Int.cast_ofNat_Int, ↓reduceIte]
      · simp (maxSteps := 1000000) only [go_sem, b3, hs, s4 (hs.push _), s5 (hs.push _), s6 (hs.push _), hA1, hA2, hA3, rowsV_len, hl12, e7, hcn', e8, ne_eq, not_true, Nat.reduceEqDiff, reduceCtorEq, Nat.reduceAdd, Nat.reduceMul, Nat.reduceSub, Int.reduceLT, Int.reduceLE, Int.reduceEq, Int.reduceAdd, Int.reduceSub, Int.reduceNeg, Int.reduceToNat, Int.cast_ofNat_Int, ↓reduceIte]
        have hcl := hA3
        have hn : (0 ≤ n ∧ n ≤ 100) ∧ (-2048 ≤ p ∧ p ≤ 2047) ∧ (-2048 ≤ q ∧ q ≤ 2047) ∧ (-2048 ≤ t ∧ t ≤ 2047) ∧ -2048 ≤ u ∧ u ≤ 2047 := by
          unfold clErr at hcl
          cases hq : (wi n 0 100 && wi p (-2048) 2047 && wi q (-2048) 2047 && wi t (-2048) 2047 && wi u (-2048) 2047)
          · rw [hq] at hcl; simp at hcl
          · simp only [Bool.and_eq_true, wi_iff] at hq; omega
        have hd : -2048 ≤ d ∧ d ≤ 2047 := by
          have h1 := hA1; simp only [loopOk, Bool.and_eq_true, wi_iff] at h1; exact h1.2
        have hd' : -2048 ≤ d' ∧ d' ≤ 2047 := by
          have h1 := hA2; simp only [loopOk, Bool.and_eq_true, wi_iff] at h1; exact h1.2
        have hAb := aOf_bd (l := l) (fun x hx => ⟨(hR.ord.2 x hx).2.2.1, (hR.ord.2 x hx).2.2.2.2⟩)
        have hTl := truthL_len X st
        have hPl := phL_len X st
        have hPok := phL_ok X st
        have hTb := truthL_bd (t := t) (u := u) (n := n) (by omega) (by omega) X st 1 hXi (by omega) (by omega) (by omega)
        have hTok : totOk (truthL st X) = true := by
          simp only [totOk, Bool.not_eq_true', List.any_eq_false]
          intro y hy
          have := hTb y hy
          simp only [Bool.not_eq_true', Bool.not_eq_false]
          exact wi_iff.2 (by omega)
        have b0 := trackS_bd hA1 (phL st X) 0 d 0 hd.1 hd.2 (by omega) (by omega) (by omega)
        have b1 := trackS_bd hA2 (phL st X) 0 d' 0 hd'.1 hd'.2 (by omega) (by omega) (by omega)
        have n0 := trackS_len a b c d (phL st X) 0 d
        have n1 := trackS_len a' b' c' d' (phL st X) 0 d'
        have hstart : inR l d (st - 0) = true := inR_between hR.ord hR.lo hR.hi (by omega) (by omega)
        have hdev := dev_in hR X st 0 d hXi hstart
        have hsmall : ∀ (i : Nat) (q' : Int × Int) (y : Int), (trackS a b c d 0 d (phL st X))[i]? = some q' → (truthL st X)[i]? = some y → -2048 ≤ y - q'.1 ∧ y - q'.1 ≤ 2047 ∧ max (y - q'.1) (-(y - q'.1)) ≤ aOf l := by
          intro i q' y h1 h2
          obtain ⟨row, hrow, _, h3, h4⟩ := inR_row (hdev i q' y h1 h2)
          have := hR.ord.2 row hrow
          have := aOf_ge hrow
          omega
        have hnone := slips_none (trackS a b c d 0 d (phL st X)) (truthL st X) 0 (fun i q' y h1 h2 => by have := hsmall i q' y h1 h2; omega)
        have key : ∀ k ρ m, k ≤ l.length → (ρ 3 = .ptr s.acts.length 0 0 ∧ ρ 4 = .ptr s.acts.length 1 0 ∧ ρ 9 = .slice (copyO (ints (truthL st X))) 1 (ints (truthL st X)) ∧ ρ 10 = .slice (copyO (ints (phL st X))) 1 (ints (phL st X)) ∧ ρ 12 = I (aOf (l.take k)) ∧ ρ 13 = I k ∧
            m = s.push ⟨[[I a, I b, I c, I d, I a', I b', I c', I d'], [I p, I q, I t, I u, I n, .slice o 3 (rowsV l)], [I st, .slice o2 2 (inps X)]], []⟩) → go AP f3 (.c (.loop b3_l2) :: k3_2) ⟨ρ, m⟩ = some (B true, s) := by
          refine loop_up l.length _ _ ?_ ?_
          · rintro k ρ m hk ⟨h3, h4, h9, h10, h12, h13, rfl⟩ ih
            obtain ⟨x, hx⟩ := get_some hk
            have hr1 := ix_sl (o := o) (es := 3) (rowsV_get hx)
            have hxb := hR.ord.2 x (List.mem_of_getElem? hx)
            have w1 := wrap_id (x := -x.2.1) (by omega) (by omega)
            simp (maxSteps := 1000000) only [go_sem, b3_l2, hs, h3, h4, h9, h10, h12, h13, rowsV_len, lt_dec hk, hr1, w1, wrap_succ hk (show (l.length : Int) < _ by omega), Nat.reduceEqDiff, reduceCtorEq, Nat.reduceAdd, Nat.reduceMul, Nat.reduceSub, Int.reduceLT, Int.reduceLE, Int.reduceEq, Int.reduceAdd, Int.reduceSub, Int.reduceNeg, Int.reduceToNat, Int.cast_ofNat_Int, ↓reduceIte]
            refine ih _ _ ?_
            exact ⟨h3, h4, h9, h10, by simp only [put]; rw [take_get hx]; simp [aOf], rfl, rfl⟩
          · rintro ρ m ⟨h3, h4, h9, h10, h12, h13, rfl⟩
            rw [List.take_length] at h12
            have w1 := wrap_id (x := 2048 - aOf l) (by omega) (by omega)
            by_cases hth : 2048 - aOf l < 1
            · simp (maxSteps := 1000000) only [go_sem, b3_l2, b3_r2, hs, h3, h4, h9, h10, h12, h13, rowsV_len, ge_dec, w1, hth, Nat.reduceEqDiff, reduceCtorEq, Nat.reduceAdd, Nat.reduceMul, Nat.reduceSub, Int.reduceLT, Int.reduceLE, Int.reduceEq, Int.reduceAdd, Int.reduceSub, Int.reduceNeg, Int.reduceToNat, Int.cast_ofNat_Int, ↓reduceIte]
            · have hth2 : wi (2048 - aOf l) 1 1000000000000 = true := wi_iff.2 (by omega)
              have e9 : ∀ r, callL AP (.fn 9) [LP a b c d, CL p q t u n, .slice (copyO (rowsV l)) 3 (rowsV l)] (s.push r) = some (.tuple [I (cntR l), I 0], s.push r) := fun r => s9 (hs.push _) (by omega) hA1 hA3 hR
              have e11 : ∀ r, callL AP (.fn 11) [LP2 a b c d a' b' c' d', .slice (copyO (ints (phL st X))) 1 (ints (phL st X)), I (2048 - aOf l)] (s.push r) = some (.tuple [accV 1 (ints (disGo (2048 - aOf l) (trackS a b c d 0 d (phL st X)) (trackS a' b' c' d' 0 d' (phL st X)) 0)), I 0], s.push r) := fun r => s11 (hs.push _) hA1 hA2 (by omega) hPok hth2
              have e13 : ∀ r, callL AP (.fn 13) [LP a' b' c' d', .slice (copyO (ints (phL st X))) 1 (ints (phL st X))] (s.push r) = some (.tuple [accV 2 (sts (trackS a' b' c' d' 0 d' (phL st X))), accV 1 (ints (trackE a' b' c' d' 0 d' (phL st X))), I 0], s.push r) := fun r => by
                rw [s13 (hs.push r) (by omega), trkRes_ok hA2 (by omega) hPok]
              have e14 : ∀ r, callL AP (.fn 14) [LP a' b' c' d', .slice (copyO (ints (phL st X))) 1 (ints (phL st X)), .slice (copyO (ints (truthL st X))) 1 (ints (truthL st X))] (s.push r) = some (.tuple [accV 1 (ints (slipsGo (trackS a' b' c' d' 0 d' (phL st X)) (truthL st X) 0 0)), I 0], s.push r) := fun r => s14 (hs.push _) hA2 (by omega) hPok (by omega) hTok
              have e14' : ∀ r, callL AP (.fn 14) [LP a b c d, .slice (copyO (ints (phL st X))) 1 (ints (phL st X)), .slice (copyO (ints (truthL st X))) 1 (ints (truthL st X))] (s.push r) = some (.tuple [accV 1 (ints []), I 0], s.push r) := fun r => by
                rw [s14 (hs.push _) hA1 (by omega) hPok (by omega) hTok, hnone]
              have e12 : ∀ (L : List Int) (o : Own) s, L.length ≤ 60 → callL AP (.fn 12) [.slice o 1 (ints L)] s = some (.slice (copyO (ints L)) 1 (ints L), s) := fun L o s h => s12 (by omega)
              have e12T := fun o s => e12 (truthL st X) o s (by omega)
              have e12P := fun o s => e12 (phL st X) o s (by omega)
              have e10 : ∀ s, callL AP (.fn 10) [.slice o 3 (rowsV l)] s = some (.slice (copyO (rowsV l)) 3 (rowsV l), s) := fun s => s10 (by omega)
              have hDl := dis_len (2048 - aOf l) (trackS a b c d 0 d (phL st X)) (trackS a' b' c' d' 0 d' (phL st X)) 0
              have hSl := slips_len (trackS a' b' c' d' 0 d' (phL st X)) (truthL st X) 0 0
              have l1 : decide (((trackS a' b' c' d' 0 d' (phL st X)).length : Int) ≠ ((truthL st X).length : Int)) = false := by simp; omega
              have l2 : decide (((truthL st X).length : Int) < ((disGo (2048 - aOf l) (trackS a b c d 0 d (phL st X)) (trackS a' b' c' d' 0 d' (phL st X)) 0).length : Int)) = false := by simp; omega
              have l3 : decide (((truthL st X).length : Int) < ((slipsGo (trackS a' b' c' d' 0 d' (phL st X)) (truthL st X) 0 0).length : Int)) = false := by simp; omega
              simp (maxSteps := 1000000) only [go_sem, b3_l2, b3_r2, hs, h3, h4, h9, h10, h12, h13, rowsV_len, ge_dec, w1, hth, e10, e12T, e12P, e9, e11, e13, e14, e14', ints_len, sts_len, l1, l2, l3, ne_eq, not_true, Nat.reduceEqDiff, reduceCtorEq, Nat.reduceAdd, Nat.reduceMul, Nat.reduceSub, Int.reduceLT, Int.reduceLE, Int.reduceEq, Int.reduceAdd, Int.reduceSub, Int.reduceNeg, Int.reduceToNat, Int.cast_ofNat_Int, ↓reduceIte]
              have hh : ∀ (k : Nat) (q' : Int × Int) (y : Int), (trackS a' b' c' d' 0 d' (phL st X))[k]? = some q' → (truthL st X)[k]? = some y →
                  (2048 ≤ max (y - q'.1) (-(y - q'.1)) → has (disGo (2048 - aOf l) (trackS a b c d 0 d (phL st X)) (trackS a' b' c' d' 0 d' (phL st X)) 0) k = true) ∧
                  (has (disGo (2048 - aOf l) (trackS a b c d 0 d (phL st X)) (trackS a' b' c' d' 0 d' (phL st X)) 0) k = true → 2048 - 2 * aOf l ≤ max (y - q'.1) (-(y - q'.1))) := by
                intro k q' y h1 h2
                have hk := (List.getElem?_eq_some_iff.1 h2).1
                obtain ⟨q0, h0⟩ := trackS_get (a := a) (b := b) (c := c) (d := d) (phL st X) 0 d (k := k) (by omega)
                have hsm := hsmall k q0 y h0 h2
                constructor
                · intro hb
                  exact (dis_has _ _ _ _ _).2 ⟨k, q0, q', by simp, h0, h1, by omega⟩
                · intro hb
                  obtain ⟨k', p1, q1, e1, e2, e3, e4⟩ := (dis_has _ _ _ _ _).1 hb
                  have e5 : k' = k := by omega
                  subst e5
                  rw [h0] at e2; injection e2 with e2; subst e2
                  rw [h1] at e3; injection e3 with e3; subst e3
                  omega
              have hturn : ∀ (k : Nat) (q' : Int × Int) (y : Int), (trackS a' b' c' d' 0 d' (phL st X))[k]? = some q' → (truthL st X)[k]? = some y → (y - q'.1 + 2048) / 4096 ≠ 0 → has (disGo (2048 - aOf l) (trackS a b c d 0 d (phL st X)) (trackS a' b' c' d' 0 d' (phL st X)) 0) k = true :=
                fun k q' y h1 h2 h3 => (hh k q' y h1 h2).1 (by omega)
              refine s3_states (T := truthL st X) (D := disGo (2048 - aOf l) (trackS a b c d 0 d (phL st X)) (trackS a' b' c' d' 0 d' (phL st X)) 0) (SL := slipsGo (trackS a' b' c' d' 0 d' (phL st X)) (truthL st X) 0 0) (S1 := trackS a' b' c' d' 0 d' (phL st X)) (A := aOf l)
                (m0 := ⟨[[I a, I b, I c, I d, I a', I b', I c', I d'], [I p, I q, I t, I u, I n, .slice o 3 (rowsV l)], [I st, .slice o2 2 (inps X)]], []⟩) (o := copyO (ints (truthL st X))) hs (by omega) (by omega) (by omega) (by omega) hAb.1 hAb.2 ?_ (fun y hy => by have := hTb y hy; omega) (fun q' hq' => by have := b1 q' hq'; omega) hh 0 _ _ (Nat.zero_le _) ?_
              · intro x hx
                obtain ⟨k, q', y, e1, e2, e3, e4⟩ := slips_at _ _ _ _ _ hx
                have hk := (List.getElem?_eq_some_iff.1 e3).1
                refine ⟨by omega, by omega, ?_⟩
                rcases e4 with e4 | ⟨_, e4⟩ | ⟨k', p', y', f1, f2, f3, f4⟩
                · left; have := hturn k q' y e2 e3 e4; rw [e1]; simpa using this
                · exact absurd rfl e4
                · right; have := hturn k' p' y' f2 f3 f4
                  have hx1 : x - 1 = (k' : Int) := by omega
                  rw [hx1]; exact this
              · exact ⟨h9, h12, rfl, rfl, rfl, rfl, rfl⟩
        refine key 0 _ _ (Nat.zero_le _) ?_
        exact ⟨rfl, rfl, rfl, rfl, rfl, rfl, rfl⟩
    · simp (maxSteps := 1000000) only [go_sem, b3, hs, s4 (hs.push _), s5 (hs.push _), s6 (hs.push _), hA1, hA2, hA3, rowsV_len, hl12, e7, ne_eq, not_true, Nat.reduceEqDiff, reduceCtorEq, Nat.reduceAdd, Nat.reduceMul, Nat.reduceSub, Int.reduceLT, Int.reduceLE, Int.reduceEq, Int.reduceAdd, Int.reduceSub, Int.reduceNeg, Int.reduceToNat, Int.cast_ofNat_Int, ↓reduceIte]
      have : (decide (¬ er = 0) || decide (300 < cn)) = true := by
        by_cases h1 : er = 0
        · have : 300 < cn := by have := fun h => hB ⟨h1, h⟩; omega
          simp [this]
        · simp [h1]
      rw [this]; rfl
  · simp (maxSteps := 1000000) only [go_sem, b3, hs, s4 (hs.push _), s5 (hs.push _), s6 (hs.push _), rowsV_len, Nat.reduceEqDiff, reduceCtorEq, Nat.reduceAdd, Nat.reduceMul, Nat.reduceSub, Int.reduceLT, Int.reduceLE, Int.reduceEq, Int.reduceAdd, Int.reduceSub, Int.reduceNeg, Int.reduceToNat, Int.cast_ofNat_Int, ↓reduceIte]
    have : (decide ((cond (loopOk a b c d) (0 : Int) 2) ≠ 0) || decide ((cond (loopOk a' b' c' d') (0 : Int) 2) ≠ 0) || decide (clErr p q t u n ≠ 0) || decide (12 < (l.length : Int))) = true := by
      cases h1 : loopOk a b c d <;> cases h2 : loopOk a' b' c' d' <;> simp_all
      omega
    rw [this]; rfl
end
end Go.Ax.Sx.Sl
