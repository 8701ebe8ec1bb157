/-
  The other operations without a call.
-/
import Derived.Test.YtfmojojicndbcaaAxH
import Derived.Laws.StructEq
import Derived.Laws.IdiomStrings
import Derived.Laws.BytesString
import Derived.Laws.Slices
namespace Go.Ax
open Go.RowKit

section
variable {P : Program} {B0 : Nat} {w0 : World} {G : Ghost} {k nl : Nat} {w : World} {s : Sig}

/-- An operation that yields a value: how it runs. -/
def Runs (P : Program) (m : Sem Value) (w : World) (v : Value) (w' : World) : Prop := m.run P w = .ok v w'

theorem StepTo.same (h : At P B0 w0 G k nl s w) {x : AV} {v : Value} (hv : Rel G k nl x v) : StepTo P B0 w0 G k nl s s w x v := ⟨G, h, GLe.refl _ _ _, rfl, hv⟩

theorem Rel.val (x : Value) (h : plain x = true) : Rel G k nl (.v x) x := .cl (.v h)

/-! ### Numbers and strings -/

theorem intOp_run {op : BinOp} {kd : IntKind} {x y : Int} {v : Value} (h : intOp op kd x y = some v) (hs : isShift op = false) (t : TypeId) :
    (binOp op t (.int kd x) (.int kd y)).run P w = .ok v w ∧ plain v = true := by
  cases op <;> simp only [isShift] at hs <;> first
    | (cases hs; done)
    | (simp only [intOp] at h
       first
         | (injection h with h; subst h; exact ⟨by simp [binOp, Op.intArith, Op.intBits, Op.intCmp], rfl⟩)
         | (split at h
            · cases h
            · rename_i hy
              injection h with h
              subst h
              exact ⟨by simp [binOp, Op.intDiv, hy], rfl⟩)
         | cases h)

theorem shiftOp_run {op : BinOp} {kx ky : IntKind} {x y : Int} {v : Value} (h : shiftOp op kx x y = some v) (t : TypeId) :
    (binOp op t (.int kx x) (.int ky y)).run P w = .ok v w ∧ plain v = true := by
  unfold shiftOp at h
  split at h
  · cases h
  · rename_i hy
    cases op <;> simp only at h <;> first
      | (cases h; done)
      | (injection h with h; subst h; exact ⟨by simp [binOp, Op.shift, hy], rfl⟩)

theorem strOp_run {op : BinOp} {x y : ByteArray} {v : Value} (h : strOp op x y = some v) (t : TypeId) :
    (binOp op t (.string x) (.string y)).run P w = .ok v w ∧ plain v = true := by
  unfold strOp at h
  simp only [← ByteArray.toList_eq] at h
  cases op <;> simp only at h <;> first
    | (injection h with h; subst h; exact ⟨by simp [binOp, Op.stringOp], rfl⟩)
    | (split at h
       · cases h
       · rename_i hc
         injection h with h
         subst h
         exact ⟨by simp only [binOp, Op.stringOp]; rw [if_neg hc]; rfl, rfl⟩)
    | cases h

theorem arithOp_cases {op : BinOp} {a b v : AV} (h : arithOp op a b = some v) :
    (∃ kd x kd' y, a = .v (.int kd x) ∧ b = .v (.int kd' y) ∧ ((isShift op = true ∧ ∃ z, shiftOp op kd x y = some z ∧ v = .v z) ∨ (isShift op = false ∧ kd = kd' ∧ ∃ z, intOp op kd x y = some z ∧ v = .v z))) ∨
    ∃ x y z, a = .v (.string x) ∧ b = .v (.string y) ∧ strOp op x y = some z ∧ v = .v z := by
  unfold arithOp at h
  split at h
  · rename_i kd x kd' y
    refine .inl ⟨kd, x, kd', y, rfl, rfl, ?_⟩
    by_cases hs : isShift op = true
    · rw [if_pos hs] at h
      cases hz : shiftOp op kd x y with
      | none => rw [hz] at h; cases h
      | some z => rw [hz] at h; injection h with h; exact .inl ⟨hs, z, rfl, h.symm⟩
    · rw [if_neg hs] at h
      by_cases hk : kd = kd'
      · rw [if_pos hk] at h
        cases hz : intOp op kd x y with
        | none => rw [hz] at h; cases h
        | some z => rw [hz] at h; injection h with h; exact .inr ⟨by simpa using hs, hk, z, rfl, h.symm⟩
      · rw [if_neg hk] at h; cases h
  · rename_i x y
    cases hz : strOp op x y with
    | none => rw [hz] at h; cases h
    | some z => rw [hz] at h; injection h with h; exact .inr ⟨x, y, z, rfl, rfl, hz, h.symm⟩
  · cases h

theorem arith_sound {op : BinOp} {a b v : AV} {x y : Value} (t : TypeId) (hx : Rel G k nl a x) (hy : Rel G k nl b y) (h : arithOp op a b = some v) :
    ∃ z, (binOp op t x y).run P w = .ok z w ∧ Rel G k nl v z ∧ x ≠ .nilIface ∧ ∀ cs, x ≠ .agg cs := by
  have hc := arithOp_cases h
  clear h
  rcases hc with ⟨kd, a, kd', b, rfl, rfl, hq⟩ | ⟨a, b, z, rfl, rfl, hz, rfl⟩
  · obtain rfl := hx.inv_v
    obtain rfl := hy.inv_v
    rcases hq with ⟨_, z, hz, rfl⟩ | ⟨hs, rfl, z, hz, rfl⟩
    · obtain ⟨h1, h2⟩ := shiftOp_run (P := P) (w := w) (ky := kd') hz t
      exact ⟨z, h1, .val z h2, by simp, by simp⟩
    · obtain ⟨h1, h2⟩ := intOp_run (P := P) (w := w) hz hs t
      exact ⟨z, h1, .val z h2, by simp, by simp⟩
  · obtain rfl := hx.inv_v
    obtain rfl := hy.inv_v
    obtain ⟨h1, h2⟩ := strOp_run (P := P) (w := w) hz t
    exact ⟨z, h1, .val z h2, by simp, by simp⟩

theorem eqGuard_other {op : BinOp} {t : TypeId} {x y : Operand} {a b : Value} (h1 : a ≠ .nilIface) (h2 : ∀ cs, a ≠ .agg cs) : (eqGuard op t x y a b).run P w = .ok () w := by
  unfold eqGuard
  cases op <;> simp <;> (cases a <;> simp_all)

/-! ### Equality -/

theorem eql_run (t : TypeId) (neg : Bool) {x y : Value} {b : Bool} (h : (Op.equal t x y).run P w = .ok b w) (hx : (∀ k n, x ≠ .int k n) ∧ (∀ s, x ≠ .string s) ∧ (∀ k n, x ≠ .float k n) ∧ (∀ k m n, x ≠ .complex k m n)) :
    (binOp (if neg then .neq else .eql) t x y).run P w = .ok (.bool (if neg then !b else b)) w := by
  obtain ⟨h1, h2, h3, h4⟩ := hx
  cases neg
  · simp only [Bool.false_eq_true, if_false]
    have : binOp .eql t x y = (do pure (.bool (← Op.equal t x y))) := by
      cases x <;> first | (exact absurd rfl (h1 _ _)) | (exact absurd rfl (h2 _)) | (exact absurd rfl (h3 _ _)) | (exact absurd rfl (h4 _ _ _)) | rfl
    rw [this]
    simp [h]
  · simp only [if_true]
    have : binOp .neq t x y = (do pure (.bool (!(← Op.equal t x y)))) := by
      cases x <;> first | (exact absurd rfl (h1 _ _)) | (exact absurd rfl (h2 _)) | (exact absurd rfl (h3 _ _)) | (exact absurd rfl (h4 _ _ _)) | rfl
    rw [this]
    simp [h]

theorem eqPlain_run {kd : PK} {x y : AV} {a b : Value} {c : Bool} {t : TypeId} (hx : Rel G k nl x a) (hy : Rel G k nl y b) (h : eqPlain kd x y = some c) (ht : pkOf P t = some kd) (d : Nat) :
    (Op.equalIn (d + 1) t a b).run P w = .ok c w := by
  unfold pkOf at ht
  unfold eqPlain at h
  split at h
  · obtain rfl := hx.inv_v
    obtain rfl := hy.inv_v
    split at ht <;> first | (cases ht; done) | skip
    rename_i hu
    split at h
    · rename_i hkk
      subst hkk
      injection h with h
      subst h
      exact run_equalIn_int w d t _ _ _ _ hu
    · cases h
  · obtain rfl := hx.inv_v
    obtain rfl := hy.inv_v
    split at ht <;> first | (cases ht; done) | skip
    rename_i hu
    injection h with h
    subst h
    exact run_equalIn_bool' w d t _ _ hu
  · obtain rfl := hx.inv_v
    obtain rfl := hy.inv_v
    split at ht <;> first | (cases ht; done) | skip
    rename_i hu
    injection h with h
    rw [← ByteArray.toList_eq, ← ByteArray.toList_eq] at h
    subst h
    exact run_equalIn_string w d t _ _ hu
  · cases h

theorem part_one {t : TypeId} {kd : PK} (h : pkOf P t = some kd) {cs : Array Value} {i : Nat} (hi : i < cs.size) : (Go.part t cs i).run P w = .ok cs[i] w := by
  have ha : (isAgg t).run P w = .ok false w := by
    unfold pkOf at h
    split at h <;> first
      | (rename_i hu; simp [isAgg, run_underlying hu, pure])
      | cases h
  unfold Go.part
  simp only [Sem.run_bind, ha, Result.andThen_ok, Bool.false_eq_true, if_false]
  simp [hi]

/-- Structs of plain fields, one field behind the other. -/
theorem eqFields_run (d : Nat) {xs ys : Array Value} : ∀ (fs : List Field) (ks : List PK) (as bs : List AV) (o : Nat) (c : Bool), (∀ f, f ∈ fs → f.name ≠ "_") → mapO (fun f : Field => pkOf P f.type) fs = some ks → fs.map (·.offset) = List.range' o fs.length →
    xs.size = o + as.length → ys.size = o + bs.length → (∀ i (hi : i < as.length), Rel G k nl as[i] (xs.getD (o + i) Go.undef)) → (∀ i (hi : i < bs.length), Rel G k nl bs[i] (ys.getD (o + i) Go.undef)) →
    eqCells ks as bs = some c → (Op.eqFields (d + 1) xs ys fs).run P w = .ok c w
  | [], ks, as, bs, o, c, _, hk, _, _, _, _, _, h => by
    simp only [mapO] at hk
    injection hk with hk
    subst hk
    cases as with
    | nil => cases bs with
      | nil => simp only [eqCells] at h; injection h with h; subst h; rfl
      | cons => cases h
    | cons => cases h
  | f :: fs, ks, as, bs, o, c, hn, hk, ho, hxs, hys, hxr, hyr, h => by
    simp only [mapO] at hk
    split at hk
    case h_2 => cases hk
    rename_i kd ks' hkd hks
    injection hk with hk
    subst hk
    cases as with
    | nil => cases h
    | cons a as =>
      cases bs with
      | nil => cases h
      | cons b bs =>
        simp only [List.map_cons, List.length_cons, List.range'_succ, List.cons.injEq] at ho
        obtain ⟨ho, ho'⟩ := ho
        simp only [List.length_cons] at hxs hys
        have hx0 := hxr 0 (by simp)
        have hy0 := hyr 0 (by simp)
        simp only [Nat.add_zero, List.getElem_cons_zero] at hx0 hy0
        have hix : o < xs.size := by omega
        have hiy : o < ys.size := by omega
        have ex : xs.getD o Go.undef = xs[o] := by simp [Array.getD, hix]
        have ey : ys.getD o Go.undef = ys[o] := by simp [Array.getD, hiy]
        rw [ex] at hx0
        rw [ey] at hy0
        simp only [eqCells] at h
        simp only [Op.eqFields]
        rw [if_pos (hn f (by simp)), ho]
        split at h
        · rename_i he
          have hrun := eqPlain_run (P := P) (w := w) hx0 hy0 he hkd d
          have ih := eqFields_run d (xs := xs) (ys := ys) fs ks' as bs (o + 1) c (fun g hg => hn g (by simp [hg])) hks ho' (by omega) (by omega)
            (fun i hi => by have := hxr (i + 1) (by simpa using hi); simpa [Nat.add_assoc, Nat.add_comm 1 i] using this)
            (fun i hi => by have := hyr (i + 1) (by simpa using hi); simpa [Nat.add_assoc, Nat.add_comm 1 i] using this) h
          simp [part_one hkd hix, part_one hkd hiy, hrun, ih]
        · rename_i he
          injection h with h
          subst h
          have hrun := eqPlain_run (P := P) (w := w) hx0 hy0 he hkd d
          simp [part_one hkd hix, part_one hkd hiy, hrun]
        · cases h

end
end Go.Ax
