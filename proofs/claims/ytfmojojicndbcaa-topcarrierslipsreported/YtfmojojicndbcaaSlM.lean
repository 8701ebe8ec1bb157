import Derived.Test.YtfmojojicndbcaaSlS7
namespace Go.Ax.Sx.Sl
open Go.Ax
set_option linter.unusedSimpArgs false
set_option linter.unusedVariables false

theorem truthL_len : ∀ (X : List (Int × Int)) (st : Int), (truthL st X).length = X.length
  | [], _ => rfl
  | x :: r, st => by simp [truthL, truthL_len r]
theorem phL_len : ∀ (X : List (Int × Int)) (st : Int), (phL st X).length = X.length
  | [], _ => rfl
  | x :: r, st => by simp [phL, phL_len r]
theorem phL_ok : ∀ (X : List (Int × Int)) (st : Int), phOk (phL st X) = true
  | [], _ => rfl
  | x :: r, st => by
    have h := phL_ok r (st + x.2)
    have : wi ((st + x.1) % 4096) 0 4095 = true := wi_iff.2 (by omega)
    simp only [phOk, phL, List.any_cons, this] at h ⊢
    simpa using h
theorem truthL_bd {t u n : Int} (ht : -2048 ≤ t) (hu : u ≤ 2047) : ∀ (X : List (Int × Int)) (st k : Int), (∀ x ∈ X, inpOk t u n x) → 0 ≤ k → -(2048 * k) ≤ st → st ≤ 2048 * k → ∀ y ∈ truthL st X, -(2048 * (k + X.length)) ≤ y ∧ y ≤ 2048 * (k + X.length)
  | [], _, _, _, _, _, _ => by simp [truthL]
  | x :: r, st, k, h, hk, h1, h2 => by
    intro y hy
    have hx := h x (List.mem_cons_self ..)
    unfold inpOk at hx
    rw [truthL] at hy
    simp only [List.length_cons]
    rcases List.mem_cons.1 hy with rfl | hy
    · omega
    · have := truthL_bd ht hu r (st + x.2) (k + 1) (fun z hz => h z (List.mem_cons_of_mem _ hz)) (by omega) (by omega) (by omega) y hy
      omega

theorem inR_row {l : List Row} {f e : Int} (h : inR l f e = true) : ∃ x ∈ l, x.1 = f ∧ x.2.1 ≤ e ∧ e ≤ x.2.2 := by
  simp only [inR, List.any_eq_true, Bool.and_eq_true, decide_eq_true_eq, wi_iff] at h
  obtain ⟨x, hx, h1, h2⟩ := h
  exact ⟨x, hx, h1, h2⟩

theorem dev_in {a b c d p q t u n : Int} {l : List Row} (hR : RegOk a b c d p q t u n l) : ∀ (X : List (Int × Int)) (at_ ph f : Int), (∀ x ∈ X, inpOk t u n x) → inR l f (at_ - ph) = true →
    ∀ (i : Nat) (s : Int × Int) (y : Int), (trackS a b c d ph f (phL at_ X))[i]? = some s → (truthL at_ X)[i]? = some y → inR l s.2 (y - s.1) = true
  | [], _, _, _, _, _ => by intro i s y hs; simp [phL, trackS] at hs
  | x :: r, at_, ph, f, hX, hin => by
    intro i s y hs hy
    rw [phL, trackS] at hs
    rw [truthL] at hy
    cases i with
    | zero => simp at hs hy; subst hs hy; exact hin
    | succ i =>
      simp only [List.getElem?_cons_succ] at hs hy
      have hx := hX x (List.mem_cons_self ..)
      unfold inpOk at hx
      obtain ⟨row, hrow, hf, h1, h2⟩ := inR_row hin
      have hfine := hR.fine row hrow _ h1 h2
      simp only [Bool.and_eq_true, wi_iff] at hfine
      have hsg : sgn ((at_ + x.1) % 4096 - ph) = at_ - ph + x.1 := by unfold sgn; omega
      have hnext := hR.next row hrow _ h1 h2 x.1 x.2 hx.1 hx.2.1 hx.2.2.1 hx.2.2.2
      rw [hsg] at hs
      rw [hf] at hnext
      refine dev_in hR r (at_ + x.2) (ph + stepA a b c d f (at_ - ph + x.1)) (stepF a b c d f (at_ - ph + x.1)) (fun z hz => hX z (List.mem_cons_of_mem _ hz)) ?_ i s y hs hy
      rw [show at_ + x.2 - (ph + stepA a b c d f (at_ - ph + x.1)) = at_ - ph + x.2 - stepA a b c d f (at_ - ph + x.1) by omega]
      exact hnext

/-- the greatest size of a region's deviations -/
def aOf (l : List Row) : Int := l.foldl (fun a r => max (max a (-r.2.1)) r.2.2) 0
theorem foldl_max : ∀ (l : List Row) (a : Int), a ≤ l.foldl (fun a r => max (max a (-r.2.1)) r.2.2) a ∧ ∀ x ∈ l, -x.2.1 ≤ l.foldl (fun a r => max (max a (-r.2.1)) r.2.2) a ∧ x.2.2 ≤ l.foldl (fun a r => max (max a (-r.2.1)) r.2.2) a
  | [], a => by simp
  | r :: l, a => by
    have h := foldl_max l (max (max a (-r.2.1)) r.2.2)
    simp only [List.foldl_cons]
    refine ⟨by omega, fun x hx => ?_⟩
    rcases List.mem_cons.1 hx with rfl | hx
    · omega
    · exact h.2 x hx
theorem aOf_ge {l : List Row} {x : Row} (h : x ∈ l) : -x.2.1 ≤ aOf l ∧ x.2.2 ≤ aOf l := (foldl_max l 0).2 x h
theorem foldl_le : ∀ (l : List Row) (a : Int), a ≤ 2048 → (∀ x ∈ l, -2048 ≤ x.2.1 ∧ x.2.2 ≤ 2047) → l.foldl (fun a r => max (max a (-r.2.1)) r.2.2) a ≤ 2048
  | [], a, h, _ => by simpa using h
  | r :: l, a, h, hb => by
    have := hb r (List.mem_cons_self ..)
    simp only [List.foldl_cons]
    exact foldl_le l _ (by omega) (fun x hx => hb x (List.mem_cons_of_mem _ hx))
theorem aOf_bd {l : List Row} (h : ∀ x ∈ l, -2048 ≤ x.2.1 ∧ x.2.2 ≤ 2047) : 0 ≤ aOf l ∧ aOf l ≤ 2048 := ⟨(foldl_max l 0).1, foldl_le l 0 (by omega) h⟩

theorem dis_has (th : Int) : ∀ (S T : List (Int × Int)) (j : Nat) (i : Int), has (disGo th S T j) i = true ↔ ∃ (k : Nat) (p q : Int × Int), i = ((j + k : Nat) : Int) ∧ S[k]? = some p ∧ T[k]? = some q ∧ th ≤ max (p.1 - q.1) (-(p.1 - q.1))
  | [], T, j, i => by simp [disGo, has]
  | p :: S, [], j, i => by simp [disGo, has]
  | p :: S, q :: T, j, i => by
    have ih := dis_has th S T (j + 1) i
    have key : (∃ (k : Nat) (p' q' : Int × Int), i = ((j + k : Nat) : Int) ∧ (p :: S)[k]? = some p' ∧ (q :: T)[k]? = some q' ∧ th ≤ max (p'.1 - q'.1) (-(p'.1 - q'.1))) ↔ ((i = (j : Int) ∧ th ≤ max (p.1 - q.1) (-(p.1 - q.1))) ∨ has (disGo th S T (j + 1)) i = true) := by
      rw [ih]
      constructor
      · rintro ⟨k, p', q', h1, h2, h3, h4⟩
        cases k with
        | zero => simp at h2 h3; subst h2 h3; exact .inl ⟨by omega, h4⟩
        | succ k => exact .inr ⟨k, p', q', by omega, by simpa using h2, by simpa using h3, h4⟩
      · rintro (⟨h1, h2⟩ | ⟨k, p', q', h1, h2, h3, h4⟩)
        · exact ⟨0, p, q, by omega, rfl, rfl, h2⟩
        · exact ⟨k + 1, p', q', by omega, by simpa using h2, by simpa using h3, h4⟩
    rw [key]
    obtain ⟨p1, p2⟩ := p
    obtain ⟨q1, q2⟩ := q
    simp only [disGo]
    by_cases hc : th ≤ max (p1 - q1) (-(p1 - q1))
    · simp only [hc, if_true, has, List.any_cons, Bool.or_eq_true, decide_eq_true_eq, and_true]
      constructor
      · rintro (h | h); exact .inl h.symm; exact .inr h
      · rintro (h | h); exact .inl h.symm; exact .inr h
    · simp only [hc, if_false, and_false, false_or]
theorem dis_len (th : Int) : ∀ (S T : List (Int × Int)) (j : Nat), (disGo th S T j).length ≤ S.length
  | [], T, j => by simp [disGo]
  | p :: S, [], j => by simp [disGo]
  | p :: S, q :: T, j => by
    have := dis_len th S T (j + 1)
    obtain ⟨p1, p2⟩ := p
    obtain ⟨q1, q2⟩ := q
    simp only [disGo]
    split <;> simp <;> omega

theorem slips_len : ∀ (S : List (Int × Int)) (T : List Int) (j : Nat) (w : Int), (slipsGo S T j w).length ≤ T.length
  | [], T, j, w => by simp [slipsGo]
  | p :: S, [], j, w => by simp [slipsGo]
  | p :: S, q :: T, j, w => by
    obtain ⟨p1, p2⟩ := p
    have := slips_len S T (j + 1) ((q - p1 + 2048) / 4096)
    simp only [slipsGo]
    split <;> simp <;> omega

/-- No slip where every deviation is small. -/
theorem slips_none : ∀ (S : List (Int × Int)) (T : List Int) (j : Nat), (∀ (i : Nat) (p : Int × Int) (y : Int), S[i]? = some p → T[i]? = some y → -2048 ≤ y - p.1 ∧ y - p.1 ≤ 2047) → slipsGo S T j 0 = []
  | [], T, j, _ => by simp [slipsGo]
  | p :: S, [], j, _ => by simp [slipsGo]
  | p :: S, q :: T, j, h => by
    have h0 := h 0 p q rfl rfl
    obtain ⟨p1, p2⟩ := p
    have e : (q - p1 + 2048) / 4096 = 0 := by simp at h0; omega
    simp only [slipsGo, e, if_true]
    exact slips_none S T (j + 1) (fun i p y h1 h2 => h (i + 1) p y (by simpa using h1) (by simpa using h2))

/-- A slip is at a sample with a turn, or behind one. -/
theorem slips_at : ∀ (S : List (Int × Int)) (T : List Int) (j : Nat) (w : Int) (x : Int), x ∈ slipsGo S T j w →
    ∃ (k : Nat) (p : Int × Int) (y : Int), x = ((j + k : Nat) : Int) ∧ S[k]? = some p ∧ T[k]? = some y ∧ ((y - p.1 + 2048) / 4096 ≠ 0 ∨ (k = 0 ∧ w ≠ 0) ∨ ∃ (k' : Nat) (p' : Int × Int) (y' : Int), k = k' + 1 ∧ S[k']? = some p' ∧ T[k']? = some y' ∧ (y' - p'.1 + 2048) / 4096 ≠ 0)
  | [], T, j, w, x, h => by simp [slipsGo] at h
  | p :: S, [], j, w, x, h => by simp [slipsGo] at h
  | p :: S, q :: T, j, w, x, h => by
    obtain ⟨p1, p2⟩ := p
    have hrec : x ∈ slipsGo S T (j + 1) ((q - p1 + 2048) / 4096) → ∃ (k : Nat) (p : Int × Int) (y : Int), x = ((j + k : Nat) : Int) ∧ ((p1, p2) :: S)[k]? = some p ∧ (q :: T)[k]? = some y ∧ ((y - p.1 + 2048) / 4096 ≠ 0 ∨ (k = 0 ∧ w ≠ 0) ∨ ∃ (k' : Nat) (p' : Int × Int) (y' : Int), k = k' + 1 ∧ ((p1, p2) :: S)[k']? = some p' ∧ (q :: T)[k']? = some y' ∧ (y' - p'.1 + 2048) / 4096 ≠ 0) := by
      intro hx
      obtain ⟨k, p, y, h1, h2, h3, h4⟩ := slips_at S T (j + 1) _ x hx
      refine ⟨k + 1, p, y, by omega, by simpa using h2, by simpa using h3, ?_⟩
      rcases h4 with h4 | ⟨hk, h4⟩ | ⟨k', p', y', e, e1, e2, e3⟩
      · exact .inl h4
      · exact .inr (.inr ⟨k, (p1, p2), q, rfl, by subst hk; rfl, by subst hk; rfl, h4⟩)
      · exact .inr (.inr ⟨k, p', y', rfl, by subst e; simpa using e1, by subst e; simpa using e2, e3⟩)
    simp only [slipsGo] at h
    split at h
    · exact hrec h
    · rename_i hne
      rcases List.mem_cons.1 h with rfl | h
      · refine ⟨0, (p1, p2), q, by simp, rfl, rfl, ?_⟩
        by_cases h0 : (q - p1 + 2048) / 4096 = 0
        · exact .inr (.inl ⟨rfl, fun e => hne (by rw [h0, e])⟩)
        · exact .inl h0
      · exact hrec h
end Go.Ax.Sx.Sl
