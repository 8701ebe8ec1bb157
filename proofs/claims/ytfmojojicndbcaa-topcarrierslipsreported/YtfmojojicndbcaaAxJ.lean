/-
  The other operations without a call: each one's run.
-/
import Derived.Test.YtfmojojicndbcaaAxI
namespace Go.Ax
open Go.RowKit

section
variable {P : Program} {B0 : Nat} {w0 : World} {G : Ghost} {k nl : Nat} {w : World} {s : Sig}

/-! ### == with nil -/

theorem eqNil_cases {f : AV → Option Bool} {x y : AV} {c : Bool} (h : eqNil f x y = some c) : (f x = some true ∧ f y = some c) ∨ (f y = some true ∧ f x = some c) := by
  unfold eqNil at h
  split at h
  · rename_i b h1 h2
    injection h with h
    subst h
    exact .inl ⟨h1, h2⟩
  · rename_i b _ h1 h2
    injection h with h
    subst h
    exact .inr ⟨h2, h1⟩
  · cases h

theorem nilS_rel {x : AV} {y : Value} {c : Bool} (h : Rel G k nl x y) (hc : isNilS x = some c) : ∃ a n m, y = .slice a n m ∧ a.isNone = c := by
  unfold isNilS at hc
  split at hc
  · injection hc with hc
    subst hc
    rcases h.inv_slice with ⟨_, _, rfl⟩ | ⟨hne, _⟩
    · exact ⟨_, _, _, rfl, rfl⟩
    · exact absurd rfl hne
  · rename_i hne
    injection hc with hc
    subst hc
    rcases h.inv_slice with ⟨he, _, _⟩ | ⟨_, a, cap, rfl, _⟩
    · exact (hne he).elim
    · exact ⟨_, _, _, rfl, rfl⟩
  · injection hc with hc
    subst hc
    obtain ⟨blk, gr, rfl, _⟩ := h.inv_rsl
    exact ⟨_, _, _, rfl, rfl⟩
  · cases hc

theorem nilP_rel {x : AV} {y : Value} {c : Bool} (h : Rel G k nl x y) (hc : isNilP x = some c) : ∃ a : Option Addr, y = .pointer a ∧ a.isNone = c := by
  unfold isNilP at hc
  split at hc
  · injection hc with hc; subst hc; obtain rfl := h.inv_v; exact ⟨_, rfl, rfl⟩
  · injection hc with hc; subst hc; obtain ⟨blk, gr, rfl, _⟩ := h.inv_ptr; exact ⟨_, rfl, rfl⟩
  · injection hc with hc; subst hc; obtain ⟨blk, o0, f, rfl, _⟩ := h.inv_eptr; exact ⟨_, rfl, rfl⟩
  · cases hc

theorem nilI_rel {x : AV} {y : Value} {c : Bool} (h : Rel G k nl x y) (hc : isNilI x = some c) : (c = true ∧ y = .nilIface) ∨ (c = false ∧ ∃ t z, y = .iface t z) := by
  unfold isNilI at hc
  split at hc
  · injection hc with hc; subst hc; obtain rfl := h.inv_v; exact .inl ⟨rfl, rfl⟩
  · injection hc with hc; subst hc; obtain ⟨z, rfl, _⟩ := h.inv_iface; exact .inr ⟨rfl, _, _, rfl⟩
  · cases hc

theorem nilF_rel {x : AV} {y : Value} {c : Bool} (h : Rel G k nl x y) (hc : isNilF x = some c) : (c = true ∧ y = .nilFunc) ∨ (c = false ∧ ∃ f a b, y = .func f a b) := by
  unfold isNilF at hc
  split at hc
  · injection hc with hc; subst hc; obtain rfl := h.inv_v; exact .inl ⟨rfl, rfl⟩
  · injection hc with hc; subst hc; obtain ⟨a, b, rfl, _⟩ := h.inv_fn; exact .inr ⟨rfl, _, _, _, rfl⟩
  · injection hc with hc; subst hc; obtain ⟨r, rfl, _⟩ := h.inv_yield; exact .inr ⟨rfl, _, _, _, rfl⟩
  · cases hc

theorem equal_of {t : TypeId} {x y : Value} {b : Bool} (h : ∀ d, (Op.equalIn (d + 1) t x y).run P w = .ok b w) : (Op.equal t x y).run P w = .ok b w := by
  unfold Op.equal Op.maxDepth
  exact h 9999

theorem equal_nilS {t e : TypeId} {a b : Option Addr} {n m n' m' : Nat} (ht : P.underlying t = some (.slice e)) (h : a = none ∨ b = none) :
    (Op.equal t (.slice a n m) (.slice b n' m')).run P w = .ok (a.isNone && b.isNone) w := by
  refine equal_of fun d => ?_
  rcases h with rfl | rfl
  · simp [Op.equalIn, run_underlying ht]
  · cases a <;> simp [Op.equalIn, run_underlying ht]

theorem equal_nilP {t e : TypeId} {a b : Option Addr} (ht : P.underlying t = some (.pointer e)) (h : a = none ∨ b = none) :
    (Op.equal t (.pointer a) (.pointer b)).run P w = .ok (a.isNone && b.isNone) w := by
  refine equal_of fun d => ?_
  rcases h with rfl | rfl
  · simp [Op.equalIn, run_underlying ht]
  · cases a <;> simp [Op.equalIn, run_underlying ht]

theorem eqNil_both {f : AV → Option Bool} {x y : AV} {c : Bool} (he : eqNil f x y = some c) : ∃ p q, f x = some p ∧ f y = some q ∧ (p = true ∨ q = true) ∧ c = (p && q) := by
  rcases eqNil_cases he with ⟨h1, h2⟩ | ⟨h1, h2⟩
  · exact ⟨_, _, h1, h2, .inl rfl, by simp⟩
  · exact ⟨_, _, h2, h1, .inr rfl, by simp⟩

theorem eqGuard_iface {op : BinOp} {neg : Bool} {t : TypeId} {x y : Operand} {u v : Value} (hop : eqNeg op = some neg) (hc : (isNilConst x || isNilConst y) = true) (hu : ∀ cs, u ≠ .agg cs) : (eqGuard op t x y u v).run P w = .ok () w := by
  unfold eqGuard
  cases op <;> first | (cases hop; done) | skip
  all_goals
    cases u <;> first
      | exact absurd rfl (hu _)
      | (cases v <;> first
          | rfl
          | (cases x <;> cases y <;> first
              | rfl
              | (simp [isNilConst] at hc; done)))

/-- '==' and '!=' of the kinds that are no numbers and no strings. -/
theorem eqv_sound {op : BinOp} {neg neg' : Bool} {t : TypeId} {x y : Operand} {bx by_ ax ay : AOpd} {kd : EqKind} {ρ : Nat → AV} {a : Act} {c : Bool} (hop : eqNeg op = some neg) (rx : Rel G k nl (evalT ρ bx) (a.eval x)) (ry : Rel G k nl (evalT ρ by_) (a.eval y))
    (hm : compEq P op neg t x y bx by_ = some (.eqv neg' kd ax ay)) (he : eqOp kd (evalT ρ ax) (evalT ρ ay) = some c) :
    (do eqGuard op t x y (a.eval x) (a.eval y); binOp op t (a.eval x) (a.eval y)).run P w = .ok (.bool (if neg' then !c else c)) w := by
  have hop' : op = (if neg = true then BinOp.neq else BinOp.eql) := by
    cases op <;> simp [eqNeg] at hop <;> subst hop <;> rfl
  have fin : ∀ {b : Bool}, (eqGuard op t x y (a.eval x) (a.eval y)).run P w = .ok () w → (Op.equal t (a.eval x) (a.eval y)).run P w = .ok b w →
      ((∀ k n, a.eval x ≠ .int k n) ∧ (∀ s, a.eval x ≠ .string s) ∧ (∀ k n, a.eval x ≠ .float k n) ∧ (∀ k m n, a.eval x ≠ .complex k m n)) →
      (do eqGuard op t x y (a.eval x) (a.eval y); binOp op t (a.eval x) (a.eval y)).run P w = .ok (.bool (if neg then !b else b)) w := fun hg hq hn => by
    have := eql_run (P := P) (w := w) t neg hq hn
    rw [← hop'] at this
    simp [hg, this]
  unfold compEq at hm
  split at hm <;> first | (cases hm; done) | skip
  · -- bools
    rename_i hu
    injection hm with hm
    injection hm with e1 e2 e3 e4
    subst e1 e2 e3 e4
    simp only [eqOp] at he
    split at he
    · rename_i p q h1 h2
      injection he with he
      subst he
      rw [h1] at rx
      rw [h2] at ry
      have ex := rx.inv_v
      have ey := ry.inv_v
      rw [ex, ey] at fin ⊢
      exact fin (eqGuard_other (by simp) (by simp)) (equal_of fun d => run_equalIn_bool' w d t _ _ hu) ⟨by simp, by simp, by simp, by simp⟩
    · cases he
  · -- structs
    rename_i fs hu
    split at hm
    case isFalse => cases hm
    rename_i hcond
    obtain ⟨c1, c2, c3, c4⟩ := hcond
    cases hks : mapO (fun f : Field => pkOf P f.type) fs.toList with
    | none => rw [hks] at hm; cases hm
    | some ks =>
      rw [hks] at hm
      simp only [Option.map_some, Option.some.injEq] at hm
      injection hm with e1 e2 e3 e4
      subst e1 e2 e3 e4
      simp only [eqOp] at he
      split at he
      · rename_i p q h1 h2
        rw [h1] at rx
        rw [h2] at ry
        obtain ⟨xs, ex, lx, _, qx⟩ := rx.inv_agg
        obtain ⟨ys, ey, ly, _, qy⟩ := ry.inv_agg
        rw [ex, ey] at fin ⊢
        have hfo : P.fieldsOf t = fs := by simp [Program.fieldsOf, hu]
        refine fin (run_eqGuard_agg w op t x y xs ys c2) ?_ ⟨by simp, by simp, by simp, by simp⟩
        unfold Op.equal Op.maxDepth
        rw [run_equalIn_struct w 9999 t xs ys (by rw [hfo]; exact hu) c1, hfo]
        refine eqFields_run 9998 (xs := xs) (ys := ys) fs.toList ks p q 0 c (fun f hf => ?_) hks ?_ (by omega) (by omega) (fun i hi => by simpa using qx i hi) (fun i hi => by simpa using qy i hi) he
        · have := List.all_eq_true.1 c3 f hf
          simpa using this
        · rw [c4, List.range_eq_range']
          simp
      · cases he
  · -- pointers
    rename_i e hu
    injection hm with hm
    injection hm with e1 e2 e3 e4
    subst e1 e2 e3 e4
    simp only [eqOp] at he
    obtain ⟨p, q, hp, hq, hpq, rfl⟩ := eqNil_both he
    obtain ⟨u, ex, hu'⟩ := nilP_rel rx hp
    obtain ⟨v, ey, hv'⟩ := nilP_rel ry hq
    rw [ex, ey] at fin ⊢
    have := equal_nilP (P := P) (w := w) (a := u) (b := v) hu (by rcases hpq with rfl | rfl <;> simp_all)
    rw [hu', hv'] at this
    exact fin (eqGuard_other (by simp) (by simp)) this ⟨by simp, by simp, by simp, by simp⟩
  · -- interfaces
    rename_i ms hu
    split at hm
    case isFalse => cases hm
    rename_i hcst
    injection hm with hm
    injection hm with e1 e2 e3 e4
    subst e1 e2 e3 e4
    simp only [eqOp] at he
    obtain ⟨p, q, hp, hq, hpq, rfl⟩ := eqNil_both he
    rcases nilI_rel rx hp with ⟨rfl, ex⟩ | ⟨rfl, tx, zx, ex⟩ <;> rcases nilI_rel ry hq with ⟨rfl, ey⟩ | ⟨rfl, ty, zy, ey⟩ <;> rw [ex, ey] at fin ⊢
    · exact fin (eqGuard_iface hop hcst (by simp)) (equal_of fun d => by simp [Op.equalIn, run_underlying hu]) ⟨by simp, by simp, by simp, by simp⟩
    · exact fin (eqGuard_iface hop hcst (by simp)) (equal_of fun d => by simp [Op.equalIn, run_underlying hu]) ⟨by simp, by simp, by simp, by simp⟩
    · exact fin (eqGuard_iface hop hcst (by simp)) (equal_of fun d => by simp [Op.equalIn, run_underlying hu]) ⟨by simp, by simp, by simp, by simp⟩
    · rcases hpq with h | h <;> cases h
  · -- slices
    rename_i e hu
    injection hm with hm
    injection hm with e1 e2 e3 e4
    subst e1 e2 e3 e4
    simp only [eqOp] at he
    obtain ⟨p, q, hp, hq, hpq, rfl⟩ := eqNil_both he
    obtain ⟨u, n, m, ex, hu'⟩ := nilS_rel rx hp
    obtain ⟨v, n', m', ey, hv'⟩ := nilS_rel ry hq
    rw [ex, ey] at fin ⊢
    have := equal_nilS (P := P) (w := w) (a := u) (b := v) (n := n) (m := m) (n' := n') (m' := m') hu (by rcases hpq with rfl | rfl <;> simp_all)
    rw [hu', hv'] at this
    exact fin (eqGuard_other (by simp) (by simp)) this ⟨by simp, by simp, by simp, by simp⟩
  · -- functions
    rename_i hu
    injection hm with hm
    injection hm with e1 e2 e3 e4
    subst e1 e2 e3 e4
    simp only [eqOp] at he
    obtain ⟨p, q, hp, hq, hpq, rfl⟩ := eqNil_both he
    rcases nilF_rel rx hp with ⟨rfl, ex⟩ | ⟨rfl, fx, a1, a2, ex⟩ <;> rcases nilF_rel ry hq with ⟨rfl, ey⟩ | ⟨rfl, fy, b1, b2, ey⟩ <;> rw [ex, ey] at fin ⊢
    · exact fin (eqGuard_other (by simp) (by simp)) (equal_of fun d => by simp [Op.equalIn, run_underlying hu]) ⟨by simp, by simp, by simp, by simp⟩
    · exact fin (eqGuard_other (by simp) (by simp)) (equal_of fun d => by simp [Op.equalIn, run_underlying hu]) ⟨by simp, by simp, by simp, by simp⟩
    · exact fin (eqGuard_other (by simp) (by simp)) (equal_of fun d => by simp [Op.equalIn, run_underlying hu]) ⟨by simp, by simp, by simp, by simp⟩
    · rcases hpq with h | h <;> cases h

end
end Go.Ax
