import Derived.Test.YtfmojojicndbcaaSlS5
namespace Go.Ax.Sx.Sl
open Go.Ax
set_option linter.unusedSimpArgs false
set_option linter.unusedVariables false

section
variable {s : Sig}

theorem inR_between {l : List Row} (ho : ordR l) {f a b c : Int} (ha : inR l f a = true) (hb : inR l f b = true) (h1 : a ≤ c) (h2 : c ≤ b) : inR l f c = true := by
  simp only [inR, List.any_eq_true, Bool.and_eq_true, decide_eq_true_eq, wi_iff] at ha hb ⊢
  obtain ⟨x, hx, ex, wx⟩ := ha
  obtain ⟨y, hy, ey, wy⟩ := hb
  obtain ⟨i, hi⟩ := List.getElem?_of_mem hx
  obtain ⟨j, hj⟩ := List.getElem?_of_mem hy
  have : i = j := by
    rcases Nat.lt_trichotomy i j with h | h | h
    · have := ho.1 i j x y h hi hj; omega
    · exact h
    · have := ho.1 j i y x h hj hi; omega
  subst this
  rw [hi] at hj; injection hj with hj; subst hj
  exact ⟨x, hx, ex, by omega⟩

/-- no noise leads out -/
def okW (a b c d t u : Int) (l : List Row) (f e w : Int) : Prop := inR l (stepF a b c d f (e + w)) (e + t - stepA a b c d f (e + w)) = true ∧ inR l (stepF a b c d f (e + w)) (e + u - stepA a b c d f (e + w)) = true
def okE (a b c d t u n : Int) (l : List Row) (f e : Int) : Prop := (wi (e - n) (-2048) 2047 && wi (e + n) (-2048) 2047) = true ∧ ∀ w, -n ≤ w → w ≤ n → okW a b c d t u l f e w
def okRow (a b c d t u n : Int) (l : List Row) (x : Row) : Prop := ∀ e, x.2.1 ≤ e → e ≤ x.2.2 → okE a b c d t u n l x.1 e

theorem ordR_snoc {l : List Row} {k : Nat} {x : Row} (h : ordR (l.take k)) (hx : l[k]? = some x) (hb : -2048 ≤ x.1 ∧ x.1 ≤ 2047 ∧ -2048 ≤ x.2.1 ∧ x.2.1 ≤ x.2.2 ∧ x.2.2 ≤ 2047) (hp : ∀ y, 0 < k → l[k - 1]? = some y → y.1 < x.1) : ordR (l.take (k + 1)) := by
  have hk := (List.getElem?_eq_some_iff.1 hx).1
  rw [take_get hx]
  have hlen : (l.take k).length = k := by rw [List.length_take]; omega
  have hlt : ∀ (i : Nat) (y : Row), (l.take k)[i]? = some y → y.1 < x.1 := by
    intro i y hy
    have hik : i < k := by have := (List.getElem?_eq_some_iff.1 hy).1; omega
    have hy' : l[i]? = some y := by rw [List.getElem?_take] at hy; rw [if_pos hik] at hy; exact hy
    obtain ⟨z, hz⟩ := get_some (l := l) (k := k - 1) (by omega)
    have hzx := hp z (by omega) hz
    by_cases h1 : i = k - 1
    · subst h1; rw [hz] at hy'; injection hy' with e; subst e; exact hzx
    · have := h.1 i (k - 1) y z (by omega) hy (by rw [List.getElem?_take, if_pos (by omega)]; exact hz); omega
  refine ⟨fun i j y z hij hy hz => ?_, fun y hy => ?_⟩
  · by_cases hj : j < k
    · rw [List.getElem?_append_left (by omega)] at hy hz
      exact h.1 i j y z hij hy hz
    · have hj' : j = k := by
        have := (List.getElem?_eq_some_iff.1 hz).1
        simp at this; omega
      subst hj'
      rw [List.getElem?_append_right (by omega), hlen] at hz
      simp at hz; subst hz
      rw [List.getElem?_append_left (by omega)] at hy
      exact hlt i y hy
  · rcases List.mem_append.1 hy with hy | hy
    · exact h.2 y hy
    · simp at hy; subst hy; exact hb

abbrev Reg (a b c d p q t u n : Int) (l : List Row) (s : Sig) (r : Option (AV × Sig)) : Prop := ∃ cn er, r = some (.tuple [I cn, I er], s) ∧ (er = 0 → cn = cntR l ∧ RegOk a b c d p q t u n l)

theorem s7 {a b c d p q t u n : Int} {l : List Row} {o : Own} (hs : Ok s) (hl : l.length ≤ 12) (hr : ∀ x ∈ l, inI x.1 ∧ inI x.2.1 ∧ inI x.2.2) (hlo : loopOk a b c d = true) (hcl : clErr p q t u n = 0) :
    Reg a b c d p q t u n l s (callL AP (.fn 7) [LP a b c d, CL p q t u n, .slice o 3 (rowsV l)] s) := by
  have hd : -2048 ≤ d ∧ d ≤ 2047 := by
    simp only [loopOk, Bool.and_eq_true, wi_iff] at hlo; exact hlo.2
  have hn : (0 ≤ n ∧ n ≤ 100) ∧ (-2048 ≤ t ∧ t ≤ 2047) ∧ -2048 ≤ u ∧ u ≤ 2047 := by
    unfold clErr at hcl
    cases hq : (wi n 0 100 && wi p (-2048) 2047 && wi q (-2048) 2047 && wi t (-2048) 2047 && wi u (-2048) 2047)
    · rw [hq] at hcl; simp at hcl
    · simp only [Bool.and_eq_true, wi_iff] at hq; omega
  have hbad : ∀ er : Int, er ≠ 0 → Reg a b c d p q t u n l s (some (.tuple [I 0, I er], s)) := fun er h => ⟨0, er, rfl, fun e => absurd e h⟩
  -- the loops over the pairs
  have main : ∀ (ho : ordR l) (hc : cntR l ≤ 3000) (h1 : inR l d p = true) (h2 : inR l d q = true), ∀ k ρ m, k ≤ l.length → (ρ 2 = .slice o 3 (rowsV l) ∧ ρ 3 = .ptr s.acts.length 0 0 ∧ ρ 4 = .ptr s.acts.length 1 0 ∧ ρ 8 = I (cntR l) ∧ ρ 11 = I k ∧
      (∀ i x, i < k → l[i]? = some x → okRow a b c d t u n l x) ∧ ∃ junk, m = s.push ⟨[I a, I b, I c, I d] :: [I p, I q, I t, I u, I n] :: junk, []⟩) → Reg a b c d p q t u n l s (go AP f7 (.c (.loop b7_l0) :: k7_0) ⟨ρ, m⟩) := by
    intro ho hc hp1 hp2
    refine loop_ex l.length _ _ ?_ ?_
    · rintro k ρ m hk ⟨h2, h3, h4, h8, h11, hrow, junk, rfl⟩ ih
      obtain ⟨x, hx⟩ := get_some hk
      have hix := ix_sl (o := o) (es := 3) (rowsV_get hx)
      have hxm := List.mem_of_getElem? hx
      have hxb := ho.2 x hxm
      have hin : ∀ e ρ m, (x.2.1 ≤ e ∧ ρ 2 = .slice o 3 (rowsV l) ∧ ρ 3 = .ptr s.acts.length 0 0 ∧ ρ 4 = .ptr s.acts.length 1 0 ∧ ρ 8 = I (cntR l) ∧ ρ 11 = I k ∧ ρ 12 = I e ∧
          (∀ e', x.2.1 ≤ e' → e' < e → okE a b c d t u n l x.1 e') ∧ ∃ junk, m = s.push ⟨[I a, I b, I c, I d] :: [I p, I q, I t, I u, I n] :: junk, []⟩) → Reg a b c d p q t u n l s (go AP f7 (.c (.loop b7_l1) :: k7_1) ⟨ρ, m⟩) := by
        refine loop_exi x.2.2 _ _ ?_ ?_
        · rintro e ρ m he ⟨he0, h2, h3, h4, h8, h11, h12, hE, junk, rfl⟩ ih2
          have e24 : ∀ r, callL AP (.fn 24) [CL p q t u n, SP x.1 e] (s.push r) = some (B (!(wi (e - n) (-2048) 2047 && wi (e + n) (-2048) 2047)), s.push r) := fun r => s24 (hs.push _) (by omega) (by omega) (by omega) (by omega)
          have hnois : ∀ (hf : (wi (e - n) (-2048) 2047 && wi (e + n) (-2048) 2047) = true), ∀ w ρ m, (-n ≤ w ∧ ρ 2 = .slice o 3 (rowsV l) ∧ ρ 3 = .ptr s.acts.length 0 0 ∧ ρ 4 = .ptr s.acts.length 1 0 ∧ ρ 8 = I (cntR l) ∧ ρ 11 = I k ∧ ρ 12 = I e ∧ ρ 13 = .ptr s.acts.length (junk.length + 1 + 1) 0 ∧ ρ 14 = I w ∧
              (∀ w', -n ≤ w' → w' < w → okW a b c d t u l x.1 e w') ∧ m = s.push ⟨[I a, I b, I c, I d] :: [I p, I q, I t, I u, I n] :: (junk ++ [[I x.1, I e]]), []⟩) → Reg a b c d p q t u n l s (go AP f7 (.c (.loop b7_l2) :: k7_2) ⟨ρ, m⟩) := by
            intro hf
            refine loop_exi n _ _ ?_ ?_
            · rintro w ρ m hw ⟨hw0, h2, h3, h4, h8, h11, h12, h13, h14, hW, rfl⟩ ih3
              have e25 : ∀ y r, -2048 ≤ y → y ≤ 2047 → callL AP (.fn 25) [LP a b c d, SP x.1 e, SP w y] (s.push r) = some (SP (stepF a b c d x.1 (e + w)) (e + y - stepA a b c d x.1 (e + w)), s.push r) := fun y r hy hy2 => s25 (hs.push _) hlo (by omega) (by omega) (by omega) (by omega) (by omega) (by omega) (by omega) (by omega)
              have e25t := fun r => e25 t r (by omega) (by omega)
              have e25u := fun r => e25 u r (by omega) (by omega)
              have e23 : ∀ f g r, callL AP (.fn 23) [.slice o 3 (rowsV l), SP f g] (s.push r) = some (B (inR l f g), s.push r) := fun f g r => s23 (hs.push _) (by omega)
              simp (maxSteps := 1000000) only [go_sem, b7_l2, h2, h3, h4, h8, h11, h12, h13, h14, hs, show decide (w ≤ n) = true by simpa using hw, e25t, e25u, e23, wrap_id (x := w + 1) (by omega) (by omega), Nat.reduceEqDiff, reduceCtorEq, Nat.reduceAdd, Nat.reduceMul, Nat.reduceSub, Int.reduceLT, Int.reduceLE, Int.reduceEq, Int.reduceAdd, Int.reduceSub, Int.reduceNeg, Int.reduceToNat, Int.cast_ofNat_Int, ↓reduceIte]
              cases hc1 : inR l (stepF a b c d x.1 (e + w)) (e + t - stepA a b c d x.1 (e + w)) <;> cases hc2 : inR l (stepF a b c d x.1 (e + w)) (e + u - stepA a b c d x.1 (e + w))
              · exact hbad 14 (by decide)
              · exact hbad 14 (by decide)
              · exact hbad 14 (by decide)
              · refine ih3 _ _ ?_
                refine ⟨by omega, h2, h3, h4, h8, h11, h12, h13, rfl, fun w' h1 h2 => ?_, rfl⟩
                by_cases hq : w' = w
                · subst hq; exact ⟨hc1, hc2⟩
                · exact hW w' h1 (by omega)
            · rintro w ρ m hw ⟨hw0, h2, h3, h4, h8, h11, h12, h13, h14, hW, rfl⟩
              simp (maxSteps := 1000000) only [go_sem, b7_l2, b7_r2, h2, h3, h4, h8, h11, h12, h13, h14, hs, show decide (w ≤ n) = false by simpa using hw, wrap_id (x := e + 1) (by omega) (by omega), Nat.reduceEqDiff, reduceCtorEq, Nat.reduceAdd, Nat.reduceMul, Nat.reduceSub, Int.reduceLT, Int.reduceLE, Int.reduceEq, Int.reduceAdd, Int.reduceSub, Int.reduceNeg, Int.reduceToNat, Int.cast_ofNat_Int, ↓reduceIte]
              refine ih2 _ _ ?_
              refine ⟨by omega, h2, h3, h4, h8, h11, rfl, fun e' h1 h2 => ?_, _, rfl⟩
              by_cases hq : e' = e
              · subst hq; exact ⟨hf, fun w' h1 h2 => hW w' h1 (by omega)⟩
              · exact hE e' h1 (by omega)
          simp (maxSteps := 1000000) only [go_sem, b7_l1, h2, h3, h4, h8, h11, h12, hs, hix, show decide (e ≤ x.2.2) = true by simpa using he, e24, wrap_id (x := -n) (by omega) (by omega), Nat.reduceEqDiff, reduceCtorEq, Nat.reduceAdd, Nat.reduceMul, Nat.reduceSub, Int.reduceLT, Int.reduceLE, Int.reduceEq, Int.reduceAdd, Int.reduceSub, Int.reduceNeg, Int.reduceToNat, Int.cast_ofNat_Int, ↓reduceIte]
          cases hf : (wi (e - n) (-2048) 2047 && wi (e + n) (-2048) 2047)
          · exact hbad 23 (by decide)
          · refine hnois hf (-n) _ _ ?_
            exact ⟨Int.le_refl _, h2, h3, h4, h8, h11, h12, rfl, rfl, fun w' h1 h2 => by omega, rfl⟩
        · rintro e ρ m he ⟨he0, h2, h3, h4, h8, h11, h12, hE, junk, rfl⟩
          simp (maxSteps := 1000000) only [go_sem, b7_l1, b7_r1, h2, h3, h4, h8, h11, h12, hs, hix, show decide (e ≤ x.2.2) = false by simpa using he, wrap_succ hk (show (l.length : Int) < _ by omega), Nat.reduceEqDiff, reduceCtorEq, Nat.reduceAdd, Nat.reduceMul, Nat.reduceSub, Int.reduceLT, Int.reduceLE, Int.reduceEq, Int.reduceAdd, Int.reduceSub, Int.reduceNeg, Int.reduceToNat, Int.cast_ofNat_Int, ↓reduceIte]
          refine ih _ _ ?_
          refine ⟨h2, h3, h4, h8, rfl, fun i y hi hy => ?_, _, rfl⟩
          by_cases hq : i = k
          · subst hq; rw [hx] at hy; injection hy with e; subst e
            exact fun e' h1 h2 => hE e' h1 (by omega)
          · exact hrow i y (by omega) hy
      simp (maxSteps := 1000000) only [go_sem, b7_l0, h2, h3, h4, h8, h11, hs, rowsV_len, lt_dec hk, hix, Nat.reduceEqDiff, reduceCtorEq, Nat.reduceAdd, Nat.reduceMul, Nat.reduceSub, Int.reduceLT, Int.reduceLE, Int.reduceEq, Int.reduceAdd, Int.reduceSub, Int.reduceNeg, Int.reduceToNat, Int.cast_ofNat_Int, ↓reduceIte]
      refine hin x.2.1 _ _ ?_
      exact ⟨Int.le_refl _, h2, h3, h4, h8, h11, rfl, fun e' h1 h2 => by omega, _, rfl⟩
    · rintro ρ m ⟨h2, h3, h4, h8, h11, hrow, junk, rfl⟩
      simp (maxSteps := 1000000) only [go_sem, b7_l0, b7_r0, h2, h3, h4, h8, h11, hs, rowsV_len, ge_dec, Nat.reduceEqDiff, reduceCtorEq, Nat.reduceAdd, Nat.reduceMul, Nat.reduceSub, Int.reduceLT, Int.reduceLE, Int.reduceEq, Int.reduceAdd, Int.reduceSub, Int.reduceNeg, Int.reduceToNat, Int.cast_ofNat_Int, ↓reduceIte]
      refine ⟨cntR l, 0, rfl, fun _ => ⟨rfl, ho, hc, hp1, hp2, fun x hx e h1 h2 => ?_, fun x hx e h1 h2 w y hw hw2 hy hy2 => ?_⟩⟩
      · obtain ⟨i, hi⟩ := List.getElem?_of_mem hx
        exact (hrow i x (List.getElem?_eq_some_iff.1 hi).1 hi e h1 h2).1
      · obtain ⟨i, hi⟩ := List.getElem?_of_mem hx
        have := (hrow i x (List.getElem?_eq_some_iff.1 hi).1 hi e h1 h2).2 w hw hw2
        exact inR_between ho this.1 this.2 (by omega) (by omega)
  have key : ∀ k ρ m, k ≤ l.length → (ρ 2 = .slice o 3 (rowsV l) ∧ ρ 3 = .ptr s.acts.length 0 0 ∧ ρ 4 = .ptr s.acts.length 1 0 ∧ ρ 8 = I (cntR (l.take k)) ∧ ρ 9 = I k ∧ ordR (l.take k) ∧
      ∃ junk, m = s.push ⟨[I a, I b, I c, I d] :: [I p, I q, I t, I u, I n] :: junk, []⟩) → Reg a b c d p q t u n l s (go AP f7 (.c (.loop b7_l3) :: k7_3) ⟨ρ, m⟩) := by
    refine loop_ex l.length _ _ ?_ ?_
    · rintro k ρ m hk ⟨h2, h3, h4, h8, h9, ho, junk, rfl⟩ ih
      obtain ⟨x, hx⟩ := get_some hk
      have hix := ix_sl (o := o) (es := 3) (rowsV_get hx)
      have c1 := cntR_nn (l := l.take k) (fun y hy => (ho.2 y hy).2.2.2.1)
      have c2 := cntR_le (l := l.take k) (fun y hy => ⟨(ho.2 y hy).2.2.1, (ho.2 y hy).2.2.2.2⟩)
      have c3 : (l.take k).length ≤ 12 := by rw [List.length_take]; omega
      -- the row before
      have hprev : ∃ y : Row, (0 < k → l[k - 1]? = some y) := by
        by_cases h0 : 0 < k
        · obtain ⟨y, hy⟩ := get_some (l := l) (k := k - 1) (by omega)
          exact ⟨y, fun _ => hy⟩
        · exact ⟨(0, 0, 0), fun h => absurd h h0⟩
      obtain ⟨y, hy⟩ := hprev
      have hgo : ∀ (h1 : (wi x.1 (-2048) 2047 && wi x.2.1 (-2048) 2047 && wi x.2.2 (-2048) 2047) = true) (h2 : x.2.1 ≤ x.2.2) (h3 : 0 < k → y.1 < x.1), ordR (l.take (k + 1)) := by
        intro h1 h2 h3
        simp only [Bool.and_eq_true, wi_iff] at h1
        exact ordR_snoc ho hx (by omega) (fun z h0 hz => by rw [hy h0] at hz; injection hz with e; subst e; exact h3 h0)
      have w1 : (wi x.1 (-2048) 2047 && wi x.2.1 (-2048) 2047 && wi x.2.2 (-2048) 2047) = true → IntKind.i64.wrap (IntKind.i64.wrap (IntKind.i64.wrap (cntR (l.take k) + x.2.2) - x.2.1) + 1) = cntR (l.take (k + 1)) := by
        intro h1
        simp only [Bool.and_eq_true, wi_iff] at h1
        rw [wrap_id (x := cntR (l.take k) + x.2.2) (by omega) (by omega), wrap_id (x := cntR (l.take k) + x.2.2 - x.2.1) (by omega) (by omega), wrap_id (by omega) (by omega), take_get hx, cntR_app]
        simp [cntR]; omega
      by_cases h0 : k = 0
      · simp (maxSteps := 1000000) only [go_sem, b7_l3, h2, h3, h4, h8, h9, hs, rowsV_len, lt_dec hk, hix, s22, show decide ((0 : Int) < (k : Int)) = false by simp; omega, wrap_succ hk (show (l.length : Int) < _ by omega), Nat.reduceEqDiff, reduceCtorEq, Nat.reduceAdd, Nat.reduceMul, Nat.reduceSub, Int.reduceLT, Int.reduceLE, Int.reduceEq, Int.reduceAdd, Int.reduceSub, Int.reduceNeg, Int.reduceToNat, Int.cast_ofNat_Int, ↓reduceIte]
        cases q1 : wi x.1 (-2048) 2047 <;> cases q2 : wi x.2.1 (-2048) 2047 <;> cases q3 : wi x.2.2 (-2048) 2047 <;> try exact hbad 2 (by decide)
        by_cases q4 : x.2.2 < x.2.1
        · simp only [q4, decide_true, cond_true]; exact hbad 9 (by decide)
        · simp only [q4, decide_false]
          refine ih _ _ ?_
          exact ⟨h2, h3, h4, by simp only [put]; rw [w1 (by rw [q1, q2, q3]; rfl)]; rfl, rfl, hgo (by rw [q1, q2, q3]; rfl) (by omega) (fun h => absurd h (by omega)), _, rfl⟩
      · have hk1 : IntKind.i64.wrap ((k : Int) - 1) = ((k - 1 : Nat) : Int) := by rw [wrap_id] <;> omega
        have hix' := ix_sl (o := o) (es := 3) (rowsV_get (hy (by omega)))
        simp (maxSteps := 1000000) only [go_sem, b7_l3, h2, h3, h4, h8, h9, hs, rowsV_len, lt_dec hk, hix, s22, show decide ((0 : Int) < (k : Int)) = true by simp; omega, hk1, hix', wrap_succ hk (show (l.length : Int) < _ by omega), Nat.reduceEqDiff, reduceCtorEq, Nat.reduceAdd, Nat.reduceMul, Nat.reduceSub, Int.reduceLT, Int.reduceLE, Int.reduceEq, Int.reduceAdd, Int.reduceSub, Int.reduceNeg, Int.reduceToNat, Int.cast_ofNat_Int, ↓reduceIte]
        cases q1 : wi x.1 (-2048) 2047 <;> cases q2 : wi x.2.1 (-2048) 2047 <;> cases q3 : wi x.2.2 (-2048) 2047 <;> try exact hbad 2 (by decide)
        by_cases q4 : x.2.2 < x.2.1
        · simp only [q4, decide_true]; exact hbad 9 (by decide)
        · by_cases q5 : x.1 ≤ y.1
          · simp only [q4, q5, decide_false, decide_true]; exact hbad 9 (by decide)
          · simp only [q4, q5, decide_false]
            refine ih _ _ ?_
            exact ⟨h2, h3, h4, by simp only [put]; rw [w1 (by rw [q1, q2, q3]; rfl)]; rfl, rfl, hgo (by rw [q1, q2, q3]; rfl) (by omega) (fun h => by omega), _, rfl⟩
    · rintro ρ m ⟨h2, h3, h4, h8, h9, ho, junk, rfl⟩
      rw [List.take_length] at h8 ho
      have e23 : ∀ f g r, callL AP (.fn 23) [.slice o 3 (rowsV l), SP f g] (s.push r) = some (B (inR l f g), s.push r) := fun f g r => s23 (hs.push _) (by omega)
      simp (maxSteps := 1000000) only [go_sem, b7_l3, b7_r3, h2, h3, h4, h8, h9, hs, rowsV_len, ge_dec, e23, Nat.reduceEqDiff, reduceCtorEq, Nat.reduceAdd, Nat.reduceMul, Nat.reduceSub, Int.reduceLT, Int.reduceLE, Int.reduceEq, Int.reduceAdd, Int.reduceSub, Int.reduceNeg, Int.reduceToNat, Int.cast_ofNat_Int, ↓reduceIte]
      by_cases q1 : 3000 < cntR l
      · simp only [q1, decide_true, cond_true]; exact hbad 8 (by decide)
      · simp only [q1, decide_false]
        cases q2 : inR l d p <;> cases q3 : inR l d q <;> try exact hbad 6 (by decide)
        refine main ho (by omega) q2 q3 0 _ _ (Nat.zero_le _) ?_
        exact ⟨h2, h3, h4, h8, rfl, fun i x h => by omega, junk, rfl⟩
  rw [callL_go (show AP 7 = some c7 from rfl) rfl]
  simp (maxSteps := 1000000) only [go_sem, b7, hs, rowsV_len, show decide (200 < (l.length : Int)) = false by simp; omega, Nat.reduceEqDiff, reduceCtorEq, Nat.reduceAdd, Nat.reduceMul, Nat.reduceSub, Int.reduceLT, Int.reduceLE, Int.reduceEq, Int.reduceAdd, Int.reduceSub, Int.reduceNeg, Int.reduceToNat, Int.cast_ofNat_Int, ↓reduceIte]
  refine key 0 _ _ (Nat.zero_le _) ?_
  refine ⟨rfl, rfl, rfl, rfl, rfl, ?_, [], rfl⟩
  simp [ordR]
end
end Go.Ax.Sx.Sl
