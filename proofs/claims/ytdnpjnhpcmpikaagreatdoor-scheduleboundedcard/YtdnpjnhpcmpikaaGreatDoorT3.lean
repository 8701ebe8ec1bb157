/-
  The other operations without a call.
-/
import Derived.Test.YtdnpjnhpcmpikaaGreatDoorT2
import Derived.Laws.StructEq
import Derived.Laws.IdiomStrings
import Derived.Laws.BytesString
import Derived.Laws.Slices
import Derived.Laws.MakeOwn
namespace Go.Ax
open Go.RowKit
section
variable {P : Program} {B0 : Nat} {w0 : World} {G : Ghost} {k nl : Nat} {w : World} {s : Sig}
theorem StepTo.same (h : At P B0 w0 G k nl s w) {x : AV} {v : Value} (hv : Rel G k nl x v) : StepTo P B0 w0 G k nl s s w x v := ⟨G, h, GLe.refl _ _ _, rfl, hv⟩
theorem Rel.val (x : Value) (h : plain x = true) : Rel G k nl (.v x) x := .cl (.v h)
theorem intOp_run {op : BinOp} {kd : IntKind} {x y : Int} {v : Value} (h : intOp op kd x y = some v) (hs : isShift op = false) (t : TypeId) :
    (binOp op t (.int kd x) (.int kd y)).run P w = .ok v w ∧ plain v = true := by
  cases op <;> simp only [isShift] at hs <;> first
    | (cases hs; done)
    | (simp only [intOp] at h
       first
         | (injection h with h; subst h; exact ⟨by simp [binOp, Op.intArith, Op.intBits, Op.intCmp], rfl⟩)
         | (split at h
            · cases h
            · rename_i hy
              injection h with h
              subst h
              exact ⟨by simp [binOp, Op.intDiv, hy], rfl⟩)
         | cases h)
theorem shiftOp_run {op : BinOp} {kx ky : IntKind} {x y : Int} {v : Value} (h : shiftOp op kx x y = some v) (t : TypeId) :
  (binOp op t (.int kx x) (.int ky y)).run P w = .ok v w ∧ plain v = true := by
 unfold shiftOp at h
 split at h
 ·cases h
 ·rename_i hy
  cases op <;> simp only at h <;> first
   | (cases h; done)
   | (injection h with h; subst h; exact ⟨by simp [binOp, Op.shift, hy], rfl⟩)
theorem strOp_run {op : BinOp} {x y : ByteArray} {v : Value} (h : strOp op x y = some v) (t : TypeId) :
    (binOp op t (.string x) (.string y)).run P w = .ok v w ∧ plain v = true := by
  unfold strOp at h
  simp only [← ByteArray.toList_eq] at h
  cases op <;> simp only at h <;> first
    | (injection h with h; subst h; exact ⟨by simp [binOp, Op.stringOp], rfl⟩)
    | (split at h
       · cases h
       · rename_i hc
         injection h with h
         subst h
         exact ⟨by simp only [binOp, Op.stringOp]; rw [if_neg hc]; rfl, rfl⟩)
    | cases h
theorem arithOp_cases {op : BinOp} {a b v : AV} (h : arithOp op a b = some v) :
  (∃ kd x kd' y, a = .v (.int kd x) ∧ b = .v (.int kd' y) ∧ ((isShift op = true ∧ ∃ z, shiftOp op kd x y = some z ∧ v = .v z) ∨ (isShift op = false ∧ kd = kd' ∧ ∃ z, intOp op kd x y = some z ∧ v = .v z))) ∨
  ∃ x y z, a = .v (.string x) ∧ b = .v (.string y) ∧ strOp op x y = some z ∧ v = .v z := by
 unfold arithOp at h
 split at h
 ·rename_i kd x kd' y
  refine .inl ⟨kd, x, kd', y, rfl, rfl, ?_⟩
  by_cases hs : isShift op = true
  ·rw [if_pos hs] at h
   cases hz : shiftOp op kd x y with
   | none => rw [hz] at h; cases h
   | some z => rw [hz] at h; injection h with h; exact .inl ⟨hs, z, rfl, h.symm⟩
  ·rw [if_neg hs] at h
   by_cases hk : kd = kd'
   ·rw [if_pos hk] at h
    cases hz : intOp op kd x y with
    | none => rw [hz] at h; cases h
    | some z => rw [hz] at h; injection h with h; exact .inr ⟨by simpa using hs, hk, z, rfl, h.symm⟩
   ·rw [if_neg hk] at h; cases h
 ·rename_i x y
  cases hz : strOp op x y with
  | none => rw [hz] at h; cases h
  | some z => rw [hz] at h; injection h with h; exact .inr ⟨x, y, z, rfl, rfl, hz, h.symm⟩
 ·cases h
theorem arith_sound {op : BinOp} {a b v : AV} {x y : Value} (t : TypeId) (hx : Rel G k nl a x) (hy : Rel G k nl b y) (h : arithOp op a b = some v) :
  ∃ z, (binOp op t x y).run P w = .ok z w ∧ Rel G k nl v z ∧ x ≠ .nilIface ∧ ∀ cs, x ≠ .agg cs := by
 have hc := arithOp_cases h
 clear h
 rcases hc with ⟨kd, a, kd', b, rfl, rfl, hq⟩ | ⟨a, b, z, rfl, rfl, hz, rfl⟩
 ·obtain rfl := hx.inv_v
  obtain rfl := hy.inv_v
  rcases hq with ⟨_, z, hz, rfl⟩ | ⟨hs, rfl, z, hz, rfl⟩
  ·obtain ⟨h1, h2⟩ := shiftOp_run (P := P) (w := w) (ky := kd') hz t
   exact ⟨z, h1, .val z h2, by simp, by simp⟩
  ·obtain ⟨h1, h2⟩ := intOp_run (P := P) (w := w) hz hs t
   exact ⟨z, h1, .val z h2, by simp, by simp⟩
 ·obtain rfl := hx.inv_v
  obtain rfl := hy.inv_v
  obtain ⟨h1, h2⟩ := strOp_run (P := P) (w := w) hz t
  exact ⟨z, h1, .val z h2, by simp, by simp⟩
theorem eqGuard_other {op : BinOp} {t : TypeId} {x y : Operand} {a b : Value} (h1 : a ≠ .nilIface) (h2 : ∀ cs, a ≠ .agg cs) : (eqGuard op t x y a b).run P w = .ok () w := by
 unfold eqGuard
 cases op <;> simp <;> (cases a <;> simp_all)
theorem eql_run (t : TypeId) (neg : Bool) {x y : Value} {b : Bool} (h : (Op.equal t x y).run P w = .ok b w) (hx : (∀ k n, x ≠ .int k n) ∧ (∀ s, x ≠ .string s) ∧ (∀ k n, x ≠ .float k n) ∧ (∀ k m n, x ≠ .complex k m n)) :
  (binOp (if neg then .neq else .eql) t x y).run P w = .ok (.bool (if neg then !b else b)) w := by
 obtain ⟨h1, h2, h3, h4⟩ := hx
 cases neg
 ·simp only [Bool.false_eq_true, if_false]
  have : binOp .eql t x y = (do pure (.bool (← Op.equal t x y))) := by
   cases x <;> first | (exact absurd rfl (h1 _ _)) | (exact absurd rfl (h2 _)) | (exact absurd rfl (h3 _ _)) | (exact absurd rfl (h4 _ _ _)) | rfl
  rw [this]
  simp [h]
 ·simp only [if_true]
  have : binOp .neq t x y = (do pure (.bool (!(← Op.equal t x y)))) := by
   cases x <;> first | (exact absurd rfl (h1 _ _)) | (exact absurd rfl (h2 _)) | (exact absurd rfl (h3 _ _)) | (exact absurd rfl (h4 _ _ _)) | rfl
  rw [this]
  simp [h]
theorem eqPlain_run {kd : PK} {x y : AV} {a b : Value} {c : Bool} {t : TypeId} (hx : Rel G k nl x a) (hy : Rel G k nl y b) (h : eqPlain kd x y = some c) (ht : pkOf P t = some kd) (d : Nat) :
  (Op.equalIn (d + 1) t a b).run P w = .ok c w := by
 unfold pkOf at ht
 unfold eqPlain at h
 split at h
 ·obtain rfl := hx.inv_v
  obtain rfl := hy.inv_v
  split at ht <;> first | (cases ht; done) | skip
  rename_i hu
  split at h
  ·rename_i hkk
   subst hkk
   injection h with h
   subst h
   exact run_equalIn_int w d t _ _ _ _ hu
  ·cases h
 ·obtain rfl := hx.inv_v
  obtain rfl := hy.inv_v
  split at ht <;> first | (cases ht; done) | skip
  rename_i hu
  injection h with h
  subst h
  exact run_equalIn_bool' w d t _ _ hu
 ·obtain rfl := hx.inv_v
  obtain rfl := hy.inv_v
  split at ht <;> first | (cases ht; done) | skip
  rename_i hu
  injection h with h
  rw [← ByteArray.toList_eq, ← ByteArray.toList_eq] at h
  subst h
  exact run_equalIn_string w d t _ _ hu
 ·cases h
theorem part_one {t : TypeId} {kd : PK} (h : pkOf P t = some kd) {cs : Array Value} {i : Nat} (hi : i < cs.size) : (Go.part t cs i).run P w = .ok cs[i] w := by
 have ha : (isAgg t).run P w = .ok false w := by
  unfold pkOf at h
  split at h <;> first
   | (rename_i hu; simp [isAgg, run_underlying hu, pure])
   | cases h
 unfold Go.part
 simp only [Sem.run_bind, ha, Result.andThen_ok, Bool.false_eq_true, if_false]
 simp [hi]
theorem eqFields_run (d : Nat) {xs ys : Array Value} : ∀ (fs : List Field) (ks : List PK) (as bs : List AV) (o : Nat) (c : Bool), (∀ f, f ∈ fs → f.name ≠ "_") → mapO (fun f : Field => pkOf P f.type) fs = some ks → fs.map (·.offset) = List.range' o fs.length →
  xs.size = o + as.length → ys.size = o + bs.length → (∀ i (hi : i < as.length), Rel G k nl as[i] (xs.getD (o + i) Go.undef)) → (∀ i (hi : i < bs.length), Rel G k nl bs[i] (ys.getD (o + i) Go.undef)) →
  eqCells ks as bs = some c → (Op.eqFields (d + 1) xs ys fs).run P w = .ok c w
 | [], ks, as, bs, o, c, _, hk, _, _, _, _, _, h => by
  simp only [mapO] at hk
  injection hk with hk
  subst hk
  cases as with
  | nil => cases bs with
   | nil => simp only [eqCells] at h; injection h with h; subst h; rfl
   | cons => cases h
  | cons => cases h
 | f :: fs, ks, as, bs, o, c, hn, hk, ho, hxs, hys, hxr, hyr, h => by
  simp only [mapO] at hk
  split at hk
  case h_2 => cases hk
  rename_i kd ks' hkd hks
  injection hk with hk
  subst hk
  cases as with
  | nil => cases h
  | cons a as =>
   cases bs with
   | nil => cases h
   | cons b bs =>
    simp only [List.map_cons, List.length_cons, List.range'_succ, List.cons.injEq] at ho
    obtain ⟨ho, ho'⟩ := ho
    simp only [List.length_cons] at hxs hys
    have hx0 := hxr 0 (by simp)
    have hy0 := hyr 0 (by simp)
    simp only [Nat.add_zero, List.getElem_cons_zero] at hx0 hy0
    have hix : o < xs.size := by omega
    have hiy : o < ys.size := by omega
    have ex : xs.getD o Go.undef = xs[o] := by simp [Array.getD, hix]
    have ey : ys.getD o Go.undef = ys[o] := by simp [Array.getD, hiy]
    rw [ex] at hx0
    rw [ey] at hy0
    simp only [eqCells] at h
    simp only [Op.eqFields]
    rw [if_pos (hn f (by simp)), ho]
    split at h
    ·rename_i he
     have hrun := eqPlain_run (P := P) (w := w) hx0 hy0 he hkd d
     have ih := eqFields_run d (xs := xs) (ys := ys) fs ks' as bs (o + 1) c (fun g hg => hn g (by simp [hg])) hks ho' (by omega) (by omega)
      (fun i hi => by have := hxr (i + 1) (by simpa using hi); simpa [Nat.add_assoc, Nat.add_comm 1 i] using this)
      (fun i hi => by have := hyr (i + 1) (by simpa using hi); simpa [Nat.add_assoc, Nat.add_comm 1 i] using this) h
     simp [part_one hkd hix, part_one hkd hiy, hrun, ih]
    ·rename_i he
     injection h with h
     subst h
     have hrun := eqPlain_run (P := P) (w := w) hx0 hy0 he hkd d
     simp [part_one hkd hix, part_one hkd hiy, hrun]
    ·cases h
end
end Go.Ax

/-
  The other operations without a call: each one's run.
-/
namespace Go.Ax
open Go.RowKit
section
variable {P : Program} {B0 : Nat} {w0 : World} {G : Ghost} {k nl : Nat} {w : World} {s : Sig}
theorem eqNil_cases {f : AV → Option Bool} {x y : AV} {c : Bool} (h : eqNil f x y = some c) : (f x = some true ∧ f y = some c) ∨ (f y = some true ∧ f x = some c) := by
 unfold eqNil at h
 split at h
 ·rename_i b h1 h2
  injection h with h
  subst h
  exact .inl ⟨h1, h2⟩
 ·rename_i b _ h1 h2
  injection h with h
  subst h
  exact .inr ⟨h2, h1⟩
 ·cases h
theorem nilS_rel {x : AV} {y : Value} {c : Bool} (h : Rel G k nl x y) (hc : isNilS x = some c) : ∃ a n m, y = .slice a n m ∧ a.isNone = c := by
 unfold isNilS at hc
 split at hc
 ·injection hc with hc
  subst hc
  rcases h.inv_slice with ⟨_, _, rfl⟩ | ⟨hne, _⟩
  ·exact ⟨_, _, _, rfl, rfl⟩
  ·exact absurd rfl hne
 ·rename_i hne
  injection hc with hc
  subst hc
  rcases h.inv_slice with ⟨he, _, _⟩ | ⟨_, a, cap, rfl, _⟩
  ·exact (hne he).elim
  ·exact ⟨_, _, _, rfl, rfl⟩
 ·injection hc with hc
  subst hc
  obtain ⟨blk, gr, rc, o0, rfl, _⟩ := h.inv_rsl
  exact ⟨_, _, _, rfl, rfl⟩
 ·cases hc
theorem nilP_rel {x : AV} {y : Value} {c : Bool} (h : Rel G k nl x y) (hc : isNilP x = some c) : ∃ a : Option Addr, y = .pointer a ∧ a.isNone = c := by
 unfold isNilP at hc
 split at hc
 ·injection hc with hc; subst hc; obtain rfl := h.inv_v; exact ⟨_, rfl, rfl⟩
 ·injection hc with hc; subst hc; obtain ⟨blk, gr, rfl, _⟩ := h.inv_ptr; exact ⟨_, rfl, rfl⟩
 ·injection hc with hc; subst hc; obtain ⟨blk, o0, f, rfl, _⟩ := h.inv_eptr; exact ⟨_, rfl, rfl⟩
 ·cases hc
theorem nilI_rel {x : AV} {y : Value} {c : Bool} (h : Rel G k nl x y) (hc : isNilI x = some c) : (c = true ∧ y = .nilIface) ∨ (c = false ∧ ∃ t z, y = .iface t z) := by
 unfold isNilI at hc
 split at hc
 ·injection hc with hc; subst hc; obtain rfl := h.inv_v; exact .inl ⟨rfl, rfl⟩
 ·injection hc with hc; subst hc; obtain ⟨z, rfl, _⟩ := h.inv_iface; exact .inr ⟨rfl, _, _, rfl⟩
 ·cases hc
theorem nilF_rel {x : AV} {y : Value} {c : Bool} (h : Rel G k nl x y) (hc : isNilF x = some c) : (c = true ∧ y = .nilFunc) ∨ (c = false ∧ ∃ f a b, y = .func f a b) := by
 unfold isNilF at hc
 split at hc
 ·injection hc with hc; subst hc; obtain rfl := h.inv_v; exact .inl ⟨rfl, rfl⟩
 ·injection hc with hc; subst hc; obtain ⟨a, b, rfl, _⟩ := h.inv_fn; exact .inr ⟨rfl, _, _, _, rfl⟩
 ·injection hc with hc; subst hc; obtain ⟨r, rfl, _⟩ := h.inv_yield; exact .inr ⟨rfl, _, _, _, rfl⟩
 ·cases hc
theorem equal_of {t : TypeId} {x y : Value} {b : Bool} (h : ∀ d, (Op.equalIn (d + 1) t x y).run P w = .ok b w) : (Op.equal t x y).run P w = .ok b w := by
 unfold Op.equal Op.maxDepth
 exact h 9999
theorem equal_nilS {t e : TypeId} {a b : Option Addr} {n m n' m' : Nat} (ht : P.underlying t = some (.slice e)) (h : a = none ∨ b = none) :
  (Op.equal t (.slice a n m) (.slice b n' m')).run P w = .ok (a.isNone && b.isNone) w := by
 refine equal_of fun d => ?_
 rcases h with rfl | rfl
 ·simp [Op.equalIn, run_underlying ht]
 ·cases a <;> simp [Op.equalIn, run_underlying ht]
theorem equal_nilP {t e : TypeId} {a b : Option Addr} (ht : P.underlying t = some (.pointer e)) (h : a = none ∨ b = none) :
  (Op.equal t (.pointer a) (.pointer b)).run P w = .ok (a.isNone && b.isNone) w := by
 refine equal_of fun d => ?_
 rcases h with rfl | rfl
 ·simp [Op.equalIn, run_underlying ht]
 ·cases a <;> simp [Op.equalIn, run_underlying ht]
theorem eqNil_both {f : AV → Option Bool} {x y : AV} {c : Bool} (he : eqNil f x y = some c) : ∃ p q, f x = some p ∧ f y = some q ∧ (p = true ∨ q = true) ∧ c = (p && q) := by
 rcases eqNil_cases he with ⟨h1, h2⟩ | ⟨h1, h2⟩
 ·exact ⟨_, _, h1, h2, .inl rfl, by simp⟩
 ·exact ⟨_, _, h2, h1, .inr rfl, by simp⟩
theorem eqGuard_iface {op : BinOp} {neg : Bool} {t : TypeId} {x y : Operand} {u v : Value} (hop : eqNeg op = some neg) (hc : (isNilConst x || isNilConst y) = true) (hu : ∀ cs, u ≠ .agg cs) : (eqGuard op t x y u v).run P w = .ok () w := by
  unfold eqGuard
  cases op <;> first | (cases hop; done) | skip
  all_goals
    cases u <;> first
      | exact absurd rfl (hu _)
      | (cases v <;> first
          | rfl
          | (cases x <;> cases y <;> first
              | rfl
              | (simp [isNilConst] at hc; done)))
theorem eqv_sound {op : BinOp} {neg neg' : Bool} {t : TypeId} {x y : Operand} {bx by_ ax ay : AOpd} {kd : EqKind} {ρ : Nat → AV} {a : Act} {c : Bool} (hop : eqNeg op = some neg) (rx : Rel G k nl (evalT ρ bx) (a.eval x)) (ry : Rel G k nl (evalT ρ by_) (a.eval y))
  (hm : compEq P op neg t x y bx by_ = some (.eqv neg' kd ax ay)) (he : eqOp kd (evalT ρ ax) (evalT ρ ay) = some c) :
  (do eqGuard op t x y (a.eval x) (a.eval y); binOp op t (a.eval x) (a.eval y)).run P w = .ok (.bool (if neg' then !c else c)) w := by
 have hop' : op = (if neg = true then BinOp.neq else BinOp.eql) := by
  cases op <;> simp [eqNeg] at hop <;> subst hop <;> rfl
 have fin : ∀ {b : Bool}, (eqGuard op t x y (a.eval x) (a.eval y)).run P w = .ok () w → (Op.equal t (a.eval x) (a.eval y)).run P w = .ok b w →
   ((∀ k n, a.eval x ≠ .int k n) ∧ (∀ s, a.eval x ≠ .string s) ∧ (∀ k n, a.eval x ≠ .float k n) ∧ (∀ k m n, a.eval x ≠ .complex k m n)) →
   (do eqGuard op t x y (a.eval x) (a.eval y); binOp op t (a.eval x) (a.eval y)).run P w = .ok (.bool (if neg then !b else b)) w := fun hg hq hn => by
  have := eql_run (P := P) (w := w) t neg hq hn
  rw [← hop'] at this
  simp [hg, this]
 unfold compEq at hm
 split at hm <;> first | (cases hm; done) | skip
 · -- bools
  rename_i hu
  injection hm with hm
  injection hm with e1 e2 e3 e4
  subst e1 e2 e3 e4
  simp only [eqOp] at he
  split at he
  ·rename_i p q h1 h2
   injection he with he
   subst he
   rw [h1] at rx
   rw [h2] at ry
   have ex := rx.inv_v
   have ey := ry.inv_v
   rw [ex, ey] at fin ⊢
   exact fin (eqGuard_other (by simp) (by simp)) (equal_of fun d => run_equalIn_bool' w d t _ _ hu) ⟨by simp, by simp, by simp, by simp⟩
  ·cases he
 · -- structs
  rename_i fs hu
  split at hm
  case isFalse => cases hm
  rename_i hcond
  obtain ⟨c1, c2, c3, c4⟩ := hcond
  cases hks : mapO (fun f : Field => pkOf P f.type) fs.toList with
  | none => rw [hks] at hm; cases hm
  | some ks =>
   rw [hks] at hm
   simp only [Option.map_some, Option.some.injEq] at hm
   injection hm with e1 e2 e3 e4
   subst e1 e2 e3 e4
   simp only [eqOp] at he
   split at he
   ·rename_i p q h1 h2
    rw [h1] at rx
    rw [h2] at ry
    obtain ⟨xs, ex, lx, _, qx⟩ := rx.inv_agg
    obtain ⟨ys, ey, ly, _, qy⟩ := ry.inv_agg
    rw [ex, ey] at fin ⊢
    have hfo : P.fieldsOf t = fs := by simp [Program.fieldsOf, hu]
    refine fin (run_eqGuard_agg w op t x y xs ys c2) ?_ ⟨by simp, by simp, by simp, by simp⟩
    unfold Op.equal Op.maxDepth
    rw [run_equalIn_struct w 9999 t xs ys (by rw [hfo]; exact hu) c1, hfo]
    refine eqFields_run 9998 (xs := xs) (ys := ys) fs.toList ks p q 0 c (fun f hf => ?_) hks ?_ (by omega) (by omega) (fun i hi => by simpa using qx i hi) (fun i hi => by simpa using qy i hi) he
    ·have := List.all_eq_true.1 c3 f hf
     simpa using this
    ·rw [c4, List.range_eq_range']
     simp
   ·cases he
 · -- pointers
  rename_i e hu
  injection hm with hm
  injection hm with e1 e2 e3 e4
  subst e1 e2 e3 e4
  simp only [eqOp] at he
  obtain ⟨p, q, hp, hq, hpq, rfl⟩ := eqNil_both he
  obtain ⟨u, ex, hu'⟩ := nilP_rel rx hp
  obtain ⟨v, ey, hv'⟩ := nilP_rel ry hq
  rw [ex, ey] at fin ⊢
  have := equal_nilP (P := P) (w := w) (a := u) (b := v) hu (by rcases hpq with rfl | rfl <;> simp_all)
  rw [hu', hv'] at this
  exact fin (eqGuard_other (by simp) (by simp)) this ⟨by simp, by simp, by simp, by simp⟩
 · -- interfaces
  rename_i ms hu
  split at hm
  case isFalse => cases hm
  rename_i hcst
  injection hm with hm
  injection hm with e1 e2 e3 e4
  subst e1 e2 e3 e4
  simp only [eqOp] at he
  obtain ⟨p, q, hp, hq, hpq, rfl⟩ := eqNil_both he
  rcases nilI_rel rx hp with ⟨rfl, ex⟩ | ⟨rfl, tx, zx, ex⟩ <;> rcases nilI_rel ry hq with ⟨rfl, ey⟩ | ⟨rfl, ty, zy, ey⟩ <;> rw [ex, ey] at fin ⊢
  ·exact fin (eqGuard_iface hop hcst (by simp)) (equal_of fun d => by simp [Op.equalIn, run_underlying hu]) ⟨by simp, by simp, by simp, by simp⟩
  ·exact fin (eqGuard_iface hop hcst (by simp)) (equal_of fun d => by simp [Op.equalIn, run_underlying hu]) ⟨by simp, by simp, by simp, by simp⟩
  ·exact fin (eqGuard_iface hop hcst (by simp)) (equal_of fun d => by simp [Op.equalIn, run_underlying hu]) ⟨by simp, by simp, by simp, by simp⟩
  ·rcases hpq with h | h <;> cases h
 · -- slices
  rename_i e hu
  injection hm with hm
  injection hm with e1 e2 e3 e4
  subst e1 e2 e3 e4
  simp only [eqOp] at he
  obtain ⟨p, q, hp, hq, hpq, rfl⟩ := eqNil_both he
  obtain ⟨u, n, m, ex, hu'⟩ := nilS_rel rx hp
  obtain ⟨v, n', m', ey, hv'⟩ := nilS_rel ry hq
  rw [ex, ey] at fin ⊢
  have := equal_nilS (P := P) (w := w) (a := u) (b := v) (n := n) (m := m) (n' := n') (m' := m') hu (by rcases hpq with rfl | rfl <;> simp_all)
  rw [hu', hv'] at this
  exact fin (eqGuard_other (by simp) (by simp)) this ⟨by simp, by simp, by simp, by simp⟩
 · -- functions
  rename_i hu
  injection hm with hm
  injection hm with e1 e2 e3 e4
  subst e1 e2 e3 e4
  simp only [eqOp] at he
  obtain ⟨p, q, hp, hq, hpq, rfl⟩ := eqNil_both he
  rcases nilF_rel rx hp with ⟨rfl, ex⟩ | ⟨rfl, fx, a1, a2, ex⟩ <;> rcases nilF_rel ry hq with ⟨rfl, ey⟩ | ⟨rfl, fy, b1, b2, ey⟩ <;> rw [ex, ey] at fin ⊢
  ·exact fin (eqGuard_other (by simp) (by simp)) (equal_of fun d => by simp [Op.equalIn, run_underlying hu]) ⟨by simp, by simp, by simp, by simp⟩
  ·exact fin (eqGuard_other (by simp) (by simp)) (equal_of fun d => by simp [Op.equalIn, run_underlying hu]) ⟨by simp, by simp, by simp, by simp⟩
  ·exact fin (eqGuard_other (by simp) (by simp)) (equal_of fun d => by simp [Op.equalIn, run_underlying hu]) ⟨by simp, by simp, by simp, by simp⟩
  ·rcases hpq with h | h <;> cases h
end
end Go.Ax

/-
  The other operations without a call: each one's run (2).
-/
namespace Go.Ax
open Go.RowKit
section
variable {P : Program} {B0 : Nat} {w0 : World} {G : Ghost} {k nl : Nat} {w : World} {s : Sig}
theorem pick_sound {c a b v : AV} {x y z : Value} (hx : Rel G k nl c x) (hy : Rel G k nl a y) (hz : Rel G k nl b z) (h : pickOp c a b = some v) :
  ∃ t : Bool, x = .bool t ∧ Rel G k nl v (if t then y else z) := by
 unfold pickOp at h
 split at h
 ·rename_i t
  obtain rfl := hx.inv_v
  injection h with h
  subst h
  refine ⟨t, rfl, ?_⟩
  cases t
  ·exact hz
  ·exact hy
 ·cases h
theorem unOp_sound {op : UnOp} {a v : AV} {x : Value} (hx : Rel G k nl a x) (h : unOp op a = some v) : ∃ z, (Op.unary op x).run P w = .ok z w ∧ Rel G k nl v z := by
 unfold unOp at h
 split at h
 ·obtain rfl := hx.inv_v
  cases op <;> simp only at h <;> first
   | (injection h with h; subst h; exact ⟨_, by simp [Op.unary], .val _ rfl⟩)
   | cases h
 ·obtain rfl := hx.inv_v
  cases op <;> simp only at h <;> first
   | (injection h with h; subst h; exact ⟨_, by simp [Op.unary, Op.intArith], .val _ rfl⟩)
   | cases h
 ·cases h
theorem nilCheck_sound {a v : AV} {x : Value} (hx : Rel G k nl a x) (h : nilCheckOp a = some v) : Rel G k nl v x ∧ (x ≠ .pointer none ∧ x ≠ .nilIface ∧ x ≠ .nilFunc ∧ ∀ nm f c, x ≠ .func (.method nm) f c) := by
 unfold nilCheckOp at h
 split at h
 ·injection h with h; subst h; obtain ⟨_, _, rfl, _⟩ := hx.inv_ptr; exact ⟨hx, by simp, by simp, by simp, by simp⟩
 ·injection h with h; subst h; obtain ⟨_, _, _, rfl, _⟩ := hx.inv_eptr; exact ⟨hx, by simp, by simp, by simp, by simp⟩
 ·injection h with h; subst h; obtain ⟨_, _, rfl, _⟩ := hx.inv_fn; exact ⟨hx, by simp, by simp, by simp, by simp⟩
 ·injection h with h; subst h; obtain ⟨_, rfl, _⟩ := hx.inv_yield; exact ⟨hx, by simp, by simp, by simp, by simp⟩
 ·injection h with h; subst h; obtain ⟨_, rfl, _⟩ := hx.inv_iface; exact ⟨hx, by simp, by simp, by simp, by simp⟩
 ·cases h
theorem closeAll_rel {cs ds : List AV} {arr : Array Value} (h : closeAll cs = some ds) (hl : cs.length ≤ arr.size) (hcell : ∀ c, c ∈ cs → c.isCell = true) (hR : ∀ i (hi : i < cs.length), Rel G k nl cs[i] (arr.getD i Go.undef)) :
  ds.length = cs.length ∧ (∀ c, c ∈ ds → c.isCell = true) ∧ ∀ i (hi : i < ds.length), RelC G.I ds[i] (arr.getD i Go.undef) := by
 let _ := hl
 obtain ⟨h1, h2⟩ := closeAll_spec h
 refine ⟨h1, fun c hc => ?_, fun i hi => (hR i (by omega)).close (h2 i (by omega) hi)⟩
 obtain ⟨i, hi, rfl⟩ := List.getElem_of_mem hc
 exact close_isCell (h2 i (by omega) hi) (hcell _ (List.getElem_mem _))
theorem iface_sound {t : TypeId} {a v : AV} {x : Value} (hx : Rel G k nl a x) (h : ifaceOp t a = some v) : Rel G k nl v (.iface t x) := by
 unfold ifaceOp at h
 split at h
 ·rename_i cs
  obtain ⟨arr, rfl, hl, hcell, hR⟩ := hx.inv_agg
  cases hc : closeAll cs with
  | none => rw [hc] at h; cases h
  | some ds =>
   rw [hc] at h
   injection h with h
   subst h
   obtain ⟨h1, h2, h3⟩ := closeAll_rel hc (Nat.le_of_eq hl.symm) hcell hR
   exact .cl (.iface (.agg (by rw [hl, h1]) h2 h3))
 ·split at h
  ·injection h with h
   subst h
   exact .cl (.iface (hx.closed1 (by assumption)))
  ·cases h
theorem mkFn_sound {f : FuncId} {first caps : List Operand} {af ac : List AOpd} {ρ : Nat → AV} {a : Act} (hR : TmpsRel G k nl ρ a) (hf : mapO compOpd first = some af) (hc : mapO compOpd caps = some ac) (hcl : (af.map (evalT ρ)).all AV.isClosedV = true) :
  Rel G k nl (.fn f (af.map (evalT ρ)) (ac.map (evalT ρ))) (.func (.func f) (first.toArray.map a.eval) (caps.toArray.map a.eval)) := by
 obtain ⟨l1, h1⟩ := mapO_spec hf
 obtain ⟨l2, h2⟩ := mapO_spec hc
 refine .fn (by simp [l1]) (by simp [l2]) (fun i hi => ?_) (fun i hi => ?_)
 ·have hi' : i < af.length := by simpa using hi
  have hi'' : i < first.length := by omega
  have := opd_rel (h1 i hi'' hi') hR
  have hcl' : (evalT ρ af[i]).isClosedV = true := List.all_eq_true.1 hcl _ (List.mem_map_of_mem (List.getElem_mem hi'))
  have e : (first.toArray.map a.eval).getD i Go.undef = a.eval first[i] := by simp [Array.getD, hi'']
  rw [e]
  simp only [List.getElem_map]
  exact this.closedV hcl'
 ·have hi' : i < ac.length := by simpa using hi
  have hi'' : i < caps.length := by omega
  have := opd_rel (h2 i hi'' hi') hR
  have e : (caps.toArray.map a.eval).getD i Go.undef = a.eval caps[i] := by simp [Array.getD, hi'']
  rw [e]
  simpa using this
theorem field_sound {t : TypeId} {fs : Array Field} {f : Field} {i n : Nat} {g : Bool} {a v : AV} {x : Value} (ht : P.underlying t = some (.struct fs)) (hf : fs[i]? = some f) (hg : isAggP P f.type = some g) (hn : sizeP P f.type = some n) (hx : Rel G k nl a x)
  (h : fieldOp g n f.offset a = some v) : ∃ z, (Instr.field t x i).run P w = .ok z w ∧ Rel G k nl v z := by
 unfold fieldOp at h
 split at h
 ·rename_i cs
  obtain ⟨arr, rfl, hl, hcell, hR⟩ := hx.inv_agg
  rcases part_rel (f := fun i => arr.getD i Go.undef) h hcell hR with ⟨rfl, hle, hv⟩ | ⟨rfl, hlt, hv⟩
  ·refine ⟨_, ?_, hv⟩
   simp only [Instr.field, Sem.run_bind, run_underlying ht, Result.andThen_ok, hf, asAgg, Sem.run_pure, Go.part, isAgg_run hg, if_true, sizeOf_run hn]
   congr 2
   apply Array.ext
   ·simp; omega
   ·intro j h1 h2
    simp at h1 h2 ⊢
    have : f.offset + j < arr.size := by omega
    simp [Array.getD, this]
  ·refine ⟨_, ?_, hv⟩
   have : f.offset < arr.size := by omega
   simp only [Instr.field, Sem.run_bind, run_underlying ht, Result.andThen_ok, hf, asAgg, Sem.run_pure, Go.part, isAgg_run hg, Bool.false_eq_true, if_false]
   simp [Array.getD, this]
 ·cases h
theorem extract_sound {i : Nat} {a v : AV} {x : Value} (hx : Rel G k nl a x) (h : extractOp i a = some v) : ∃ z, (Instr.extract x i).run P w = .ok z w ∧ Rel G k nl v z := by
 unfold extractOp at h
 split at h
 ·rename_i vs
  obtain ⟨arr, rfl, hl, hR⟩ := hx.inv_tuple
  obtain ⟨h1, h2⟩ := List.getElem?_eq_some_iff.1 h
  have := hR i h1
  rw [h2] at this
  refine ⟨_, ?_, this⟩
  have hi : i < arr.size := by omega
  simp [Instr.extract, hi, Array.getD]
 ·cases h
theorem len_sound {t : TypeId} {ty : TypeId} {str : Bool} {a v : AV} {x : Value} (ht : (str = false ∧ ∃ e, P.underlying t = some (.slice e)) ∨ (str = true ∧ P.underlying t = some .string)) (hx : Rel G k nl a x) (h : lenOp str a = some v) :
  ∃ z, (Builtin.len_ #[t] ty #[x]).run P w = .ok z w ∧ Rel G k nl v z := by
 unfold lenOp at h
 rcases ht with ⟨rfl, e, ht⟩ | ⟨rfl, ht⟩
 ·split at h
  ·injection h with h
   subst h
   rcases hx.inv_slice with ⟨_, rfl, rfl⟩ | ⟨_, p, cap, rfl, _⟩
   ·exact ⟨_, by simp [Builtin.len_, run_underlying ht, goInt], .val _ rfl⟩
   ·exact ⟨_, by simp [Builtin.len_, run_underlying ht, goInt], .val _ rfl⟩
  ·injection h with h
   subst h
   obtain ⟨blk, gr, rc, o0, rfl, _⟩ := hx.inv_rsl
   exact ⟨_, by simp [Builtin.len_, run_underlying ht, goInt], .val _ rfl⟩
  ·cases h
  ·cases h
 ·split at h
  ·cases h
  ·cases h
  ·injection h with h
   subst h
   obtain rfl := hx.inv_v
   exact ⟨_, by simp [Builtin.len_, run_underlying ht, goInt], .val _ rfl⟩
  ·cases h
theorem asNat_rel {x : AV} {y : Value} {m n : Nat} (hx : Rel G k nl x y) (h : asNat x m = some n) : ∃ kd z, y = .int kd z ∧ 0 ≤ z ∧ z ≤ m ∧ z.toNat = n := by
 unfold asNat at h
 split at h
 ·obtain rfl := hx.inv_v
  split at h
  ·rename_i hc
   injection h with h
   exact ⟨_, _, rfl, hc.1, hc.2, h⟩
  ·cases h
 ·cases h
theorem asNat_le {x : AV} {m n : Nat} (h : asNat x m = some n) : n ≤ m := by
 unfold asNat at h
 split at h
 ·split at h
  ·injection h with h; omega
  ·cases h
 ·cases h
def OptRel (G : Ghost) (k nl : Nat) : Option AV → Option Value → Prop
 | none, none => True
 | some x, some y => Rel G k nl x y
 | _, _ => False
theorem bounds_run {isSlice : Bool} {len cap : Nat} {lo hi : Option AV} {lo' hi' : Option Value} {h l : Nat} (hlo : OptRel G k nl lo lo') (hhi : OptRel G k nl hi hi')
  (eh : hiOf hi false cap len = some h) (el : loOf lo h = some l) :
  (Instr.sliceBounds isSlice len cap lo' hi' none).run P w = .ok (l, h, cap) w := by
 cases hi with
 | none =>
  cases hi' with
  | some => exact hhi.elim
  | none =>
   simp only [hiOf, Bool.false_eq_true, if_false, Option.some.injEq] at eh
   subst eh
   cases lo with
   | none =>
    cases lo' with
    | some => exact hlo.elim
    | none =>
     simp only [loOf, Option.some.injEq] at el
     subst el
     simp [Instr.sliceBounds]
   | some x =>
    cases lo' with
    | none => exact hlo.elim
    | some y =>
     obtain ⟨kd, z, rfl, z0, z1, rfl⟩ := asNat_rel hlo el
     simp [Instr.sliceBounds, run_sliceBound w kd z _ _ z0 z1]
 | some q =>
  cases hi' with
  | none => exact hhi.elim
  | some p =>
   obtain ⟨kd, z, rfl, z0, z1, rfl⟩ := asNat_rel hhi eh
   cases lo with
   | none =>
    cases lo' with
    | some => exact hlo.elim
    | none =>
     simp only [loOf, Option.some.injEq] at el
     subst el
     simp [Instr.sliceBounds, run_sliceBound w kd z _ _ z0 z1]
   | some x =>
    cases lo' with
    | none => exact hlo.elim
    | some y =>
     obtain ⟨kd', z', rfl, z0', z1', rfl⟩ := asNat_rel hlo el
     simp [Instr.sliceBounds, run_sliceBound w kd z _ _ z0 z1, run_sliceBound w kd' z' _ _ z0' z1']
theorem bounds_run3 {isSlice : Bool} {len cap : Nat} {lo : Option AV} {hi mx : AV} {lo' : Option Value} {hi' mx' : Value} {m h l : Nat} (hlo : OptRel G k nl lo lo') (hhi : Rel G k nl hi hi') (hmx : Rel G k nl mx mx') (em : asNat mx cap = some m)
  (eh : asNat hi m = some h) (el : loOf lo h = some l) :
  (Instr.sliceBounds isSlice len cap lo' (some hi') (some mx')).run P w = .ok (l, h, m) w := by
 obtain ⟨km, zm, rfl, zm0, zm1, rfl⟩ := asNat_rel hmx em
 obtain ⟨kd, z, rfl, z0, z1, rfl⟩ := asNat_rel hhi eh
 cases lo with
 | none =>
  cases lo' with
  | some => exact hlo.elim
  | none =>
   simp only [loOf, Option.some.injEq] at el
   subst el
   simp [Instr.sliceBounds, run_sliceBound w km zm _ _ zm0 zm1, run_sliceBound w kd z _ _ z0 z1]
 | some x =>
  cases lo' with
  | none => exact hlo.elim
  | some y =>
   obtain ⟨kd', z', rfl, z0', z1', rfl⟩ := asNat_rel hlo el
   simp [Instr.sliceBounds, run_sliceBound w km zm _ _ zm0 zm1, run_sliceBound w kd z _ _ z0 z1, run_sliceBound w kd' z' _ _ z0' z1']
theorem SliceC.cut {I : IMap} {es : Nat} {xs : List (List AV)} {a : Addr} {cap l h : Nat} (hx : SliceC I es xs a cap) (hl : l ≤ h) (hh : h ≤ xs.length) (m : Nat) (hm : h ≤ m) (hmc : m ≤ cap) (q : Addr) (hq : q = if m = l then a else a.add (l * es)) :
  SliceC I es ((xs.take h).drop l) q (m - l) := by
 cases hx with
 | empty =>
  have h0 : h = 0 := by simpa using hh
  have l0 : l = 0 := by omega
  have m0 : m = 0 := by omega
  subst h0 l0 m0
  exact .empty (.inl rfl)
 | @slice _ _ _ blk off _ f ho hc hes hcell hI hR =>
  have hlen : ((xs.take h).drop l).length = h - l := by simp; omega
  have hget : ∀ i (hi : i < ((xs.take h).drop l).length), ((xs.take h).drop l)[i] = xs[l + i]'(by omega) := fun i hi => by simp
  have hmem : ∀ r, r ∈ (xs.take h).drop l → r ∈ xs := fun r hr => List.mem_of_mem_take (List.mem_of_mem_drop hr)
  have e2 : q = ⟨blk, (if m = l then off else off + l * es), none⟩ := by
   rw [hq]
   split
   ·rfl
   ·rw [addr_add]
  rw [e2]
  refine RelC.slice (fun i j => f (l + i) j) (.inl rfl) (by omega) (fun r hr => hes r (hmem r hr)) (fun r hr => hcell r (hmem r hr)) (fun i hi j hj => ?_) (fun i hi j hj => ?_)
  ·have hne : m ≠ l := by omega
   have hi' : l + i < xs.length := by omega
   have hj' : j < (xs[l + i]).length := by simp only [hget i hi] at hj; exact hj
   rw [if_neg hne]
   have := hI (l + i) hi' j hj'
   rw [Nat.add_mul] at this
   rw [← this]
   congr 1
   omega
  ·have hi' : l + i < xs.length := by omega
   have hj' : j < (xs[l + i]).length := by simp only [hget i hi] at hj; exact hj
   have := hR (l + i) hi' j hj'
   simp only [hget i hi]
   exact this
end
end Go.Ax

/-
  The other operations without a call: slices, elements, structs and conversions.
-/
namespace Go.Ax
open Go.RowKit
section
variable {P : Program} {B0 : Nat} {w0 : World} {G : Ghost} {k nl : Nat} {w : World} {s : Sig}
theorem asNat_mono {x : AV} {m m' n : Nat} (h : asNat x m = some n) (hm : m ≤ m') : asNat x m' = some n := by
 unfold asNat at h ⊢
 split at h
 ·split at h
  ·rename_i hc
   rw [if_pos ⟨hc.1, by omega⟩]
   exact h
  ·cases h
 ·cases h
theorem chunks_spec (es : Nat) : ∀ (n : Nat) (cs : List AV), n * es ≤ cs.length → (chunks es n cs).length = n ∧ (∀ r, r ∈ chunks es n cs → r.length = es) ∧ (∀ r, r ∈ chunks es n cs → ∀ c, c ∈ r → c ∈ cs) ∧
  ∀ i (hi : i < (chunks es n cs).length) j (hj : j < (chunks es n cs)[i].length), ∃ h : i * es + j < cs.length, (chunks es n cs)[i][j] = cs[i * es + j]
 | 0, cs, _ => by simp [chunks]
 | n + 1, cs, h => by
  have hs : (n + 1) * es = n * es + es := by rw [Nat.add_mul, Nat.one_mul]
  obtain ⟨a1, a2, a3, a4⟩ := chunks_spec es n (cs.drop es) (by simp; omega)
  refine ⟨by simp [chunks, a1], fun r hr => ?_, fun r hr c hc => ?_, fun i hi j hj => ?_⟩
  ·simp only [chunks, List.mem_cons] at hr
   rcases hr with rfl | hr
   ·simp; omega
   ·exact a2 r hr
  ·simp only [chunks, List.mem_cons] at hr
   rcases hr with rfl | hr
   ·exact List.mem_of_mem_take hc
   ·exact List.mem_of_mem_drop (a3 r hr c hc)
  ·cases i with
   | zero =>
    simp only [chunks, List.getElem_cons_zero, List.length_take] at hj ⊢
    exact ⟨by omega, by simp⟩
   | succ i =>
    simp only [chunks, List.getElem_cons_succ, List.length_cons] at hi hj ⊢
    obtain ⟨h1, h2⟩ := a4 i (by omega) j hj
    simp only [List.length_drop] at h1
    have e : (i + 1) * es + j = es + (i * es + j) := by rw [Nat.add_mul, Nat.one_mul]; omega
    refine ⟨by omega, ?_⟩
    rw [h2, List.getElem_drop]
    simp only [e]
theorem row_slice {I : IMap} {cs : List AV} {es n cap blk o0 off : Nat} {f : Nat → Value} (hcell : ∀ c, c ∈ cs → c.isCell = true) (hI : ∀ i, i < cs.length → I blk (o0 + i) = some (f i)) (hR : ∀ i (hi : i < cs.length), RelC I cs[i] (f i))
  (hle : off + n * es ≤ cs.length) (hc : n ≤ cap) : SliceC I es (chunks es n (cs.drop off)) ⟨blk, o0 + off, none⟩ cap := by
 obtain ⟨a1, a2, a3, a4⟩ := chunks_spec es n (cs.drop off) (by simp; omega)
 have : SliceC I es (chunks es n (cs.drop off)) ⟨blk, o0 + off, none⟩ cap := by
  refine RelC.slice (fun i j => f (off + (i * es + j))) (.inl rfl) (by omega) a2 (fun r hr c hc => hcell c (List.mem_of_mem_drop (a3 r hr c hc))) (fun i hi j hj => ?_) (fun i hi j hj => ?_)
  ·obtain ⟨h1, _⟩ := a4 i hi j hj
   simp only [List.length_drop] at h1
   have := hI (off + (i * es + j)) (by omega)
   rw [← this]
   congr 1
   omega
  ·obtain ⟨h1, h2⟩ := a4 i hi j hj
   rw [h2, List.getElem_drop]
   exact hR _ _
 exact this
theorem toFull {I : IMap} {es : Nat} {xs : List (List AV)} {a : Addr} {n : Nat} (hn : xs.length = n) (h : RelC I (.slice .any es xs) (.slice (some a) n n)) : RelC I (.slice .full es xs) (.slice (some a) n n) := by
 subst hn
 generalize hN : xs.length = N at h
 cases h with
 | slice f ho hc hes hcell hI hR => exact .slice f (.inr ⟨rfl, rfl⟩) hc hes hcell hI hR
 | empty => exact .empty (.inr rfl)
def SlKindOk (P : Program) (t : TypeId) : SlKind → Prop
 | .str => P.underlying t = some .string
 | .sl es => ∃ e, P.underlying t = some (.slice e) ∧ sizeP P e = some es
 | .arr n es => ∃ e, P.underlying t = some (.array n e) ∧ sizeP P e = some es
theorem loOf_le {lo : Option AV} {h l : Nat} (e : loOf lo h = some l) : l ≤ h := by
 cases lo with
 | none => simp only [loOf, Option.some.injEq] at e; omega
 | some y => exact asNat_le e
theorem mxOf_le {mx : Option AV} {cap m : Nat} (e : mxOf mx cap = some m) : m ≤ cap := by
 cases mx with
 | none => simp only [mxOf, Option.some.injEq] at e; omega
 | some y => exact asNat_le e
theorem bounds_all {isSlice : Bool} {len cap cap' : Nat} {lo hi mx : Option AV} {lo' hi' mx' : Option Value} {m h l : Nat} (hlo : OptRel G k nl lo lo') (hhi : OptRel G k nl hi hi') (hmx : OptRel G k nl mx mx')
  (hcap : len ≤ cap) (hcap' : cap ≤ cap') (em : mxOf mx cap = some m) (eh : hiOf hi mx.isSome m len = some h) (el : loOf lo h = some l) :
  l ≤ h ∧ h ≤ m ∧ m ≤ cap ∧ (Instr.sliceBounds isSlice len cap' lo' hi' mx').run P w = .ok (l, h, if mx.isSome then m else cap') w := by
 have hm := mxOf_le em
 have hl := loOf_le el
 have hh : h ≤ m := by
  cases hi with
  | none =>
   cases mx with
   | none => simp only [hiOf, mxOf, Option.isSome_none, Bool.false_eq_true, if_false, Option.some.injEq] at eh em; omega
   | some => simp [hiOf] at eh
  | some y => exact asNat_le eh
 refine ⟨hl, hh, hm, ?_⟩
 cases mx with
 | none =>
  cases mx' with
  | some => exact hmx.elim
  | none =>
   simp only [mxOf, Option.some.injEq] at em
   subst em
   simp only [Option.isSome_none, Bool.false_eq_true, if_false]
   refine bounds_run hlo hhi ?_ el
   cases hi with
   | none => exact eh
   | some y => exact asNat_mono eh hcap'
 | some mv =>
  cases mx' with
  | none => exact hmx.elim
  | some mv' =>
   cases hi with
   | none => simp [hiOf] at eh
   | some hv =>
    cases hi' with
    | none => exact hhi.elim
    | some hv' =>
     simp only [Option.isSome_some, if_true]
     exact bounds_run3 hlo hhi hmx (asNat_mono em hcap') eh el
theorem sliceStr_sound {t : TypeId} {q : ByteArray} {x : Value} {v : AV} {lo hi mx : Option AV} {lo' hi' mx' : Option Value} (ht : P.underlying t = some .string)
  (hx : Rel G k nl (.v (.string q)) x) (hlo : OptRel G k nl lo lo') (hhi : OptRel G k nl hi hi') (hmx : OptRel G k nl mx mx') (h : sliceOp .str (.v (.string q)) lo hi mx = some v) :
  ∃ z, (Instr.sliceAt t x lo' hi' mx').run P w = .ok z w ∧ Rel G k nl v z := by
 obtain rfl := hx.inv_v
 simp only [sliceOp] at h
 split at h
 ·cases h
 rename_i hs
 obtain ⟨hh, eh, h⟩ := Option.bind_eq_some_iff.1 h
 obtain ⟨l, el, rfl⟩ := Option.map_eq_some_iff.1 h
 have hn : mx = none := by cases mx with | none => rfl | some => simp at hs
 subst hn
 obtain ⟨h1, h2, h3, hb⟩ := bounds_all (P := P) (w := w) (isSlice := false) (len := q.size) (cap := q.size) (cap' := q.size) hlo hhi hmx (Nat.le_refl _) (Nat.le_refl _) rfl eh el
 have hn' : mx' = none := by cases mx' with | none => rfl | some => exact hmx.elim
 subst hn'
 refine ⟨_, ?_, .val _ rfl⟩
 simp only [Instr.sliceAt, Sem.run_bind, run_underlying ht, Result.andThen_ok, Instr.slice, Option.isSome_none, Bool.false_eq_true, if_false, Sem.run_pure]
 simp [hb]
theorem sliceSl_sound {t e : TypeId} {e0 : Nat} {o : Own} {es : Nat} {xs : List (List AV)} {x : Value} {v : AV} {lo hi mx : Option AV} {lo' hi' mx' : Option Value} (ht : P.underlying t = some (.slice e)) (hsz : sizeP P e = some e0)
  (hx : Rel G k nl (.slice o es xs) x) (hlo : OptRel G k nl lo lo') (hhi : OptRel G k nl hi hi') (hmx : OptRel G k nl mx mx') (h : sliceOp (.sl e0) (.slice o es xs) lo hi mx = some v) :
  ∃ z, (Instr.sliceAt t x lo' hi' mx').run P w = .ok z w ∧ Rel G k nl v z := by
 simp only [sliceOp] at h
 split at h
 case isFalse => cases h
 rename_i hee
 obtain ⟨m, em, h⟩ := Option.bind_eq_some_iff.1 h
 obtain ⟨hh, eh, h⟩ := Option.bind_eq_some_iff.1 h
 obtain ⟨l, el, rfl⟩ := Option.map_eq_some_iff.1 h
 rcases hx.inv_slice with ⟨rfl, rfl, rfl⟩ | ⟨hne, p, cap, rfl, hsp, hcap, hxc, hfull⟩
 ·obtain ⟨h1, h2, h3, hb⟩ := bounds_all (P := P) (w := w) (isSlice := true) (len := 0) (cap := 0) (cap' := 0) hlo hhi hmx (Nat.le_refl _) (Nat.le_refl _) em eh el
  have h0 : hh = 0 := by simp at h3; omega
  have l0 : l = 0 := by omega
  have m0 : m = 0 := by simp at h3; omega
  subst h0 l0 m0
  have hv : Rel G k nl (.slice .nilS es []) (.slice none 0 0) := .cl .nilS
  have hown : (.slice (slOwn .nilS mx.isSome (0 == 0 && 0 == ([] : List (List AV)).length) (0 == 0 && decide (0 < 0))) es (([].take 0).drop 0) : AV) = .slice .nilS es [] := by
   cases mx <;> simp [slOwn, sliceOwn, Own.isNil]
  refine ⟨.slice none 0 0, ?_, by rw [hown]; exact hv⟩
  simp only [Instr.sliceAt, Sem.run_bind, run_underlying ht, Result.andThen_ok, Instr.slice, hb]
  cases mx <;> simp [sizeOf_run hsz]
 ·have heq : es = e0 := by
   rcases hee with h0 | h0
   ·cases o <;> simp_all [Own.isNil]
   ·exact h0
  subst heq
  obtain ⟨h1, h2, h3, hb⟩ := bounds_all (P := P) (w := w) (isSlice := true) (len := xs.length) (cap := xs.length) (cap' := cap) hlo hhi hmx (Nat.le_refl _) hcap em eh el
  have hlen : ((xs.take hh).drop l).length = hh - l := by simp; omega
  refine ⟨.slice (some (if (if mx.isSome then m else cap) = l then p else p.add (l * es))) (hh - l) ((if mx.isSome then m else cap) - l), ?_, ?_⟩
  ·simp only [Instr.sliceAt, Sem.run_bind, run_underlying ht, Result.andThen_ok, Instr.slice, hb, sizeOf_run hsz, Option.map_some, Sem.run_pure]
   congr 2
   split <;> split <;> rfl
  ·generalize hM : (if mx.isSome then m else cap) = M
   have hMh : hh ≤ M := by rw [← hM]; split <;> omega
   have hcut : RelC G.I (.slice .any es ((xs.take hh).drop l)) (.slice (some (if M = l then p else p.add (l * es))) (hh - l) (M - l)) := by
    have := SliceC.cut hxc h1 (by omega) M hMh (by rw [← hM]; split <;> omega) _ rfl
    unfold SliceC at this
    rwa [hlen] at this
   cases mx with
   | none =>
    simp only [Option.isSome_none, Bool.false_eq_true, if_false] at hM
    subst hM
    simp only [slOwn, Option.isSome_none, Bool.false_eq_true, if_false]
    by_cases hw : (l == 0 && hh == xs.length) = true
    ·simp only [Bool.and_eq_true, beq_iff_eq] at hw
     obtain ⟨rfl, rfl⟩ := hw
     have e1 : (xs.take xs.length).drop 0 = xs := by simp
     have e2 : (if cap = 0 then p else p.add (0 * es)) = p := by
      split
      ·rfl
      ·rw [addr_eta (hsp (by omega)), addr_add]; simp
     rw [e1, e2]
     simp only [Nat.sub_zero]
     cases o with
     | nilS => exact absurd rfl hne
     | any => exact hx
     | full => exact .cl hxc
     | tok d g => simpa [sliceOwn] using hx
    ·have ho : sliceOwn o (l == 0 && hh == xs.length) = .any := by
      cases o with
      | nilS => exact absurd rfl hne
      | any => rfl
      | full => rfl
      | tok d g => simp only [sliceOwn]; rw [if_neg hw]
     rw [ho]
     exact .cl hcut
   | some mv =>
    simp only [Option.isSome_some, if_true] at hM
    subst hM
    have hnil : o.isNil = false := by cases o <;> simp_all [Own.isNil]
    simp only [slOwn, Option.isSome_some, if_true, hnil, Bool.false_eq_true, if_false]
    by_cases hw : (hh == m && decide (0 < m)) = true
    ·rw [if_pos hw]
     simp only [Bool.and_eq_true, beq_iff_eq] at hw
     obtain ⟨rfl, _⟩ := hw
     exact .cl (toFull hlen hcut)
    ·rw [if_neg hw]
     exact .cl hcut
theorem sliceRsl_sound {t e : TypeId} {e0 d b off es n cap : Nat} {x : Value} {v : AV} {lo hi mx : Option AV} {lo' hi' mx' : Option Value} (ht : P.underlying t = some (.slice e)) (hsz : sizeP P e = some e0)
  (hx : Rel G k nl (.rsl d b off es n cap) x) (hlo : OptRel G k nl lo lo') (hhi : OptRel G k nl hi hi') (hmx : OptRel G k nl mx mx') (h : sliceOp (.sl e0) (.rsl d b off es n cap) lo hi mx = some v) :
  ∃ z, (Instr.sliceAt t x lo' hi' mx').run P w = .ok z w ∧ Rel G k nl v z := by
 simp only [sliceOp] at h
 split at h
 case isFalse => cases h
 rename_i hee
 subst hee
 obtain ⟨m, em, h⟩ := Option.bind_eq_some_iff.1 h
 obtain ⟨hh, eh, h⟩ := Option.bind_eq_some_iff.1 h
 obtain ⟨l, el, rfl⟩ := Option.map_eq_some_iff.1 h
 obtain ⟨blk, gr, rc, o0, rfl, hd, hg, hbl, hn, hc, hw, ho⟩ := hx.inv_rsl
 obtain ⟨h1, h2, h3, hb⟩ := bounds_all (P := P) (w := w) (isSlice := true) (len := n) (cap := max n cap) (cap' := rc) hlo hhi hmx (Nat.le_max_left _ _) (Nat.max_le.2 ⟨hn, hc⟩) em eh el
 have hmr : m ≤ if mx.isSome then m else rc := by
  split
  ·exact Nat.le_refl _
  ·exact Nat.le_trans h3 (Nat.max_le.2 ⟨hn, hc⟩)
 generalize hM : (if mx.isSome then m else rc) = M at hb hmr
 refine ⟨.slice (some ⟨blk, if M = l then o0 else o0 + l * es, none⟩) (hh - l) (M - l), ?_, .rsl gr hd hg hbl (Nat.sub_le_sub_right (Nat.le_trans h2 hmr) l) (Nat.sub_le_sub_right hmr l) (fun e1 e2 => by omega) (fun hp => ?_)⟩
 ·simp only [Instr.sliceAt, Sem.run_bind, run_underlying ht, Result.andThen_ok, Instr.slice, hb, sizeOf_run hsz, Option.map_some, Sem.run_pure, addr_add]
  congr 2
  split <;> rfl
 ·have hlm : l < m := by omega
  have h0 : o0 = off := ho (by omega)
  rw [if_neg (by omega), if_neg (by omega), h0]
theorem sliceArr_sound {t e : TypeId} {N es : Nat} {a v : AV} {x : Value} {lo hi mx : Option AV} {lo' hi' mx' : Option Value} (ht : P.underlying t = some (.array N e)) (hsz : sizeP P e = some es)
  (hx : Rel G k nl a x) (hlo : OptRel G k nl lo lo') (hhi : OptRel G k nl hi hi') (hmx : OptRel G k nl mx mx') (h : sliceOp (.arr N es) a lo hi mx = some v) :
  ∃ z, (Instr.sliceAt t x lo' hi' mx').run P w = .ok z w ∧ Rel G k nl v z := by
 unfold sliceOp at h
 split at h <;> try contradiction
 ·rename_i n0 es0 d b off hk
  injection hk with hk1 hk2
  subst hk1 hk2
  split at h
  ·cases h
  rename_i hs
  have hn : mx = none := by cases mx with | none => rfl | some => simp at hs
  subst hn
  obtain ⟨hh, eh, h⟩ := Option.bind_eq_some_iff.1 h
  obtain ⟨l, el, rfl⟩ := Option.map_eq_some_iff.1 h
  obtain ⟨blk, gr, rfl, hd, hg, hbl⟩ := hx.inv_ptr
  obtain ⟨h1, h2, h3, hb⟩ := bounds_all (P := P) (w := w) (isSlice := false) (len := N) (cap := N) (cap' := N) hlo hhi hmx (Nat.le_refl _) (Nat.le_refl _) rfl eh el
  refine ⟨_, ?_, .rsl gr hd hg hbl (Nat.sub_le_sub_right h2 l) (Nat.le_refl _) (fun e1 e2 => by omega) (fun _ => rfl)⟩
  simp only [Instr.sliceAt, Sem.run_bind, run_underlying ht, Result.andThen_ok, Instr.sureAddr, hb, sizeOf_run hsz, Sem.run_pure, addr_add, Option.isSome_none, Bool.false_eq_true, if_false]
  congr 3
  split <;> rfl
 ·rename_i n0 es0 cs off hk
  injection hk with hk1 hk2
  subst hk1 hk2
  split at h
  ·cases h
  rename_i hs
  have hn : mx = none := by cases mx with | none => rfl | some => simp at hs
  subst hn
  obtain ⟨hh, eh, h⟩ := Option.bind_eq_some_iff.1 h
  obtain ⟨l, el, h⟩ := Option.bind_eq_some_iff.1 h
  split at h
  case isFalse => cases h
  rename_i hle
  injection h with h
  subst h
  obtain ⟨blk, o0, f, rfl, hcell, hI, hR⟩ := hx.inv_eptr
  obtain ⟨h1, h2, h3, hb⟩ := bounds_all (P := P) (w := w) (isSlice := false) (len := N) (cap := N) (cap' := N) hlo hhi hmx (Nat.le_refl _) (Nat.le_refl _) rfl eh el
  have hmul : l * es + (hh - l) * es ≤ N * es := by
   rw [← Nat.add_mul]
   exact Nat.mul_le_mul_right _ (by omega)
  have hrow := row_slice (cap := N - l) hcell hI hR (es := es) (n := hh - l) (off := off + l * es) (by omega) (Nat.sub_le_sub_right h2 l)
  have hlen := (chunks_spec es (hh - l) (cs.drop (off + l * es)) (by simp; omega)).1
  refine ⟨.slice (some (if N = l then ⟨blk, o0 + off, none⟩ else ⟨blk, o0 + (off + l * es), none⟩)) (hh - l) (N - l), ?_, ?_⟩
  ·simp only [Instr.sliceAt, Sem.run_bind, run_underlying ht, Result.andThen_ok, Instr.sureAddr, hb, sizeOf_run hsz, Sem.run_pure, addr_add, Option.isSome_none, Bool.false_eq_true, if_false]
   congr 3
   split
   ·rfl
   ·congr 1; omega
  ·by_cases hN : N = l
   ·subst hN
    have h0 : hh = N := by omega
    subst h0
    simp only [Nat.sub_self, chunks, if_true]
    exact .cl (.slice (xs := []) (fun _ _ => Go.undef) (.inl rfl) (Nat.le_refl _) (fun r hr => by cases hr) (fun r hr => by cases hr) (fun i hi => absurd hi (Nat.not_lt_zero _)) (fun i hi => absurd hi (Nat.not_lt_zero _)))
   ·rw [if_neg hN]
    have := Rel.cl (G := G) (k := k) (nl := nl) hrow
    unfold SliceC at hrow
    rw [hlen] at hrow
    exact .cl hrow
theorem sliceOp_sound {t : TypeId} {kd : SlKind} {a v : AV} {x : Value} {lo hi mx : Option AV} {lo' hi' mx' : Option Value} (ht : SlKindOk P t kd)
  (hx : Rel G k nl a x) (hlo : OptRel G k nl lo lo') (hhi : OptRel G k nl hi hi') (hmx : OptRel G k nl mx mx') (h : sliceOp kd a lo hi mx = some v) :
  ∃ z, (Instr.sliceAt t x lo' hi' mx').run P w = .ok z w ∧ Rel G k nl v z := by
 cases kd with
 | str =>
  cases a with
  | v q =>
   cases q with
   | string q => exact sliceStr_sound ht hx hlo hhi hmx h
   | _ => simp [sliceOp] at h
  | _ => simp [sliceOp] at h
 | sl e0 =>
  obtain ⟨e, ht, hs⟩ := ht
  cases a with
  | slice o es xs => exact sliceSl_sound ht hs hx hlo hhi hmx h
  | rsl d b off es n cap => exact sliceRsl_sound ht hs hx hlo hhi hmx h
  | _ => simp [sliceOp] at h
 | arr n es =>
  obtain ⟨e, ht, hs⟩ := ht
  exact sliceArr_sound ht hs hx hlo hhi hmx h
end
end Go.Ax

/-
  Elements, fields, built values and conversions.
-/
namespace Go.Ax
open Go.RowKit
section
variable {P : Program} {B0 : Nat} {w0 : World} {G : Ghost} {k nl : Nat} {w : World} {s : Sig}
theorem idx_rel {x : AV} {y : Value} {n j : Nat} (hx : Rel G k nl x y) (h : idx x n = some j) : ∃ kd z, y = .int kd z ∧ 0 ≤ z ∧ z < n ∧ z.toNat = j := by
 unfold idx at h
 split at h
 ·obtain rfl := hx.inv_v
  split at h
  ·rename_i hc
   injection h with h
   exact ⟨_, _, rfl, hc.1, hc.2, h⟩
  ·cases h
 ·cases h
theorem indexSl_sound {t e : TypeId} {es : Nat} {a i v : AV} {x y : Value} (ht : P.underlying t = some (.slice e)) (hs : sizeP P e = some es) (hx : Rel G k nl a x) (hy : Rel G k nl i y)
  (h : indexAddrOp none es a i = some v) : ∃ z, (Instr.indexAt t x y).run P w = .ok z w ∧ Rel G k nl v z := by
 unfold indexAddrOp at h
 split at h <;> try contradiction
 ·rename_i o e1 xs _
  split at h
  case isFalse => cases h
  rename_i he
  subst he
  obtain ⟨j, hj, h⟩ := Option.bind_eq_some_iff.1 h
  obtain ⟨r, hr, rfl⟩ := Option.map_eq_some_iff.1 h
  obtain ⟨kd, z, rfl, z0, z1, rfl⟩ := idx_rel hy hj
  obtain ⟨hjl, hr⟩ := List.getElem?_eq_some_iff.1 hr
  rcases hx.inv_slice with ⟨_, rfl, _⟩ | ⟨_, p, cap, rfl, hsp, hcap, hxc, _⟩
  ·simp at hjl
  ·refine ⟨.pointer (some (p.add (z.toNat * e1))), ?_, ?_⟩
   ·simp [Instr.indexAt, run_underlying ht, asIntOf, z0, z1, sizeOf_run hs]
   ·cases hxc with
    | empty => exact absurd hjl (Nat.not_lt_zero _)
    | @slice _ _ _ blk off _ f ho hc hes hcell hI hR =>
     rw [addr_add]
     subst hr
     refine .cl (.eptr (off := 0) (o0 := off + z.toNat * e1) (fun q => f z.toNat q) (fun c hc => hcell _ (List.getElem_mem hjl) c hc) (fun q hq => hI _ hjl q hq) (fun q hq => hR _ hjl q hq))
 ·rename_i d b off e1 n cap _
  split at h
  case isFalse => cases h
  rename_i he
  subst he
  obtain ⟨j, hj, rfl⟩ := Option.map_eq_some_iff.1 h
  obtain ⟨kd, z, rfl, z0, z1, rfl⟩ := idx_rel hy hj
  obtain ⟨blk, gr, rc, o0, rfl, hd, hg, hbl, hn, _, _, ho⟩ := hx.inv_rsl
  have ho := ho (.inl (by omega))
  subst ho
  refine ⟨.pointer (some ⟨blk, o0 + z.toNat * e1, none⟩), ?_, .ptr gr hd hg hbl⟩
  simp [Instr.indexAt, run_underlying ht, asIntOf, z0, z1, sizeOf_run hs, addr_add]
theorem indexArr_sound {t e : TypeId} {N es : Nat} {a i v : AV} {x y : Value} (ht : P.underlying t = some (.array N e)) (hs : sizeP P e = some es) (hx : Rel G k nl a x) (hy : Rel G k nl i y)
  (h : indexAddrOp (some N) es a i = some v) : ∃ z, (Instr.indexAt t x y).run P w = .ok z w ∧ Rel G k nl v z := by
 unfold indexAddrOp at h
 split at h <;> try contradiction
 ·rename_i n0 d b off hk
  injection hk with hk
  subst hk
  obtain ⟨j, hj, rfl⟩ := Option.map_eq_some_iff.1 h
  obtain ⟨kd, z, rfl, z0, z1, rfl⟩ := idx_rel hy hj
  obtain ⟨blk, gr, rfl, hd, hg, hbl⟩ := hx.inv_ptr
  refine ⟨.pointer (some ⟨blk, off + z.toNat * es, none⟩), ?_, .ptr gr hd hg hbl⟩
  simp [Instr.indexAt, run_underlying ht, asIntOf, z0, z1, sizeOf_run hs, addr_add, Instr.sureAddr]
 ·rename_i n0 cs off hk
  injection hk with hk
  subst hk
  obtain ⟨j, hj, rfl⟩ := Option.map_eq_some_iff.1 h
  obtain ⟨kd, z, rfl, z0, z1, rfl⟩ := idx_rel hy hj
  obtain ⟨blk, o0, f, rfl, hcell, hI, hR⟩ := hx.inv_eptr
  refine ⟨.pointer (some ⟨blk, o0 + (off + z.toNat * es), none⟩), ?_, .cl (.eptr f hcell hI hR)⟩
  simp [Instr.indexAt, run_underlying ht, asIntOf, z0, z1, sizeOf_run hs, addr_add, Instr.sureAddr, Nat.add_assoc]
theorem fieldAddr_sound {t : TypeId} {fs : Array Field} {f : Field} {i n : Nat} {a v : AV} {x : Value} (ht : P.underlying t = some (.struct fs)) (hf : fs[i]? = some f) (hn : sizeP P f.type = some n) (h0 : 0 < n)
  (hx : Rel G k nl a x) (h : ptrAdd f.offset a = some v) : ∃ z, (Instr.fieldAt t x i).run P w = .ok z w ∧ Rel G k nl v z := by
 have hne : n ≠ 0 := by omega
 unfold ptrAdd at h
 split at h <;> try contradiction
 ·rename_i d b off
  injection h with h
  subst h
  obtain ⟨blk, gr, rfl, hd, hg, hbl⟩ := hx.inv_ptr
  refine ⟨_, ?_, .ptr gr hd hg hbl⟩
  simp [Instr.fieldAt, run_underlying ht, hf, Instr.sureAddr, fieldPlace, sizeOf_run hn, hne, addr_add]
 ·rename_i cs off
  injection h with h
  subst h
  obtain ⟨blk, o0, g, rfl, hcell, hI, hR⟩ := hx.inv_eptr
  refine ⟨.pointer (some ⟨blk, o0 + (off + f.offset), none⟩), ?_, .cl (.eptr g hcell hI hR)⟩
  simp [Instr.fieldAt, run_underlying ht, hf, Instr.sureAddr, fieldPlace, sizeOf_run hn, hne, addr_add, Nat.add_assoc]
theorem indexStr_sound {t : TypeId} {a i v : AV} {x y : Value} (ht : P.underlying t = some .string) (hx : Rel G k nl a x) (hy : Rel G k nl i y)
  (h : indexStrOp a i = some v) : ∃ z, (Instr.index t x y).run P w = .ok z w ∧ Rel G k nl v z := by
 unfold indexStrOp at h
 split at h
 ·rename_i q
  obtain rfl := hx.inv_v
  obtain ⟨j, hj, h⟩ := Option.bind_eq_some_iff.1 h
  obtain ⟨b, hb, rfl⟩ := Option.map_eq_some_iff.1 h
  obtain ⟨kd, z, rfl, z0, z1, rfl⟩ := idx_rel hy hj
  refine ⟨_, ?_, .val _ rfl⟩
  simp only [Instr.index, asIntOf, Sem.run_bind, run_underlying ht, Result.andThen_ok, Sem.run_pure, if_pos z0, hb]
 ·cases h
theorem index_sound {t e : TypeId} {N es : Nat} {g : Bool} {a i v : AV} {x y : Value} (ht : P.underlying t = some (.array N e)) (hg : isAggP P e = some g) (hn : sizeP P e = some es) (hx : Rel G k nl a x) (hy : Rel G k nl i y)
  (h : indexOp N es g a i = some v) : ∃ z, (Instr.index t x y).run P w = .ok z w ∧ Rel G k nl v z := by
 unfold indexOp at h
 split at h
 ·rename_i cs
  obtain ⟨arr, rfl, hl, hcell, hR⟩ := hx.inv_agg
  obtain ⟨j, hj, h⟩ := Option.bind_eq_some_iff.1 h
  obtain ⟨kd, z, rfl, z0, z1, rfl⟩ := idx_rel hy hj
  rcases part_rel (f := fun i => arr.getD i Go.undef) h hcell hR with ⟨rfl, hle, hv⟩ | ⟨rfl, hlt, hv⟩
  ·refine ⟨_, ?_, hv⟩
   simp only [Instr.index, asIntOf, Sem.run_bind, run_underlying ht, Result.andThen_ok, Sem.run_pure, Go.part, isAgg_run hg, if_true, sizeOf_run hn]
   rw [if_pos ⟨z0, z1⟩]
   simp only [Sem.run_bind, Result.andThen_ok, sizeOf_run hn, isAgg_run hg, if_true, Sem.run_pure]
   congr 2
   apply Array.ext
   ·simp; omega
   ·intro j h1 h2
    simp at h1 h2 ⊢
    have : z.toNat * es + j < arr.size := by omega
    simp [Array.getD, this]
  ·refine ⟨_, ?_, hv⟩
   have : z.toNat * es < arr.size := by omega
   simp only [Instr.index, asIntOf, Sem.run_bind, run_underlying ht, Result.andThen_ok, Sem.run_pure, Go.part, sizeOf_run hn]
   rw [if_pos ⟨z0, z1⟩]
   simp only [Sem.run_bind, Result.andThen_ok, sizeOf_run hn, isAgg_run hg, Bool.false_eq_true, if_false, Sem.run_pure]
   simp [Array.getD, this]
 ·cases h
theorem foldl_setA : ∀ (vs : List Value) (n o : Nat) (arr : Array Value), (vs.zipIdx n).foldl (fun (cs : Array Value) (p : Value × Nat) => cs.setIfInBounds (o + p.2) p.1) arr = setA arr (o + n) vs
 | [], _, _, _ => rfl
 | v :: r, n, o, arr => by
  simp only [List.zipIdx_cons, List.foldl_cons, setA]
  rw [foldl_setA r (n + 1) o]
  rfl
theorem foldl_arr (cs : Array Value) (o : Nat) (arr : Array Value) : cs.zipIdx.foldl (fun (c : Array Value) (p : Value × Nat) => c.setIfInBounds (o + p.2) p.1) arr = setA arr o cs.toList := by
 rw [← Array.foldl_toList, Array.toList_zipIdx, foldl_setA, Nat.add_zero]
theorem fillOne {cs : List AV} {arr : Array Value} {o size : Nat} {x : AV} {v : Value} {cs' : List AV} (hrow : Row2 (Rel G k nl) cs arr) (hcell : ∀ c, c ∈ cs → c.isCell = true) (hx : Rel G k nl x v) (h : fillRow cs o size x = some cs') :
  v.cells.size = size ∧ o + size ≤ arr.size ∧ Row2 (Rel G k nl) cs' (setA arr o v.cells.toList) ∧ ∀ c, c ∈ cs' → c.isCell = true := by
 unfold fillRow at h
 split at h
 ·rename_i hc
  obtain ⟨h1, h2, h3⟩ := hc
  injection h with h
  subst h
  have hv := hx.cells h3
  refine ⟨hv.1.trans h1, by rw [hrow.1]; exact h2, Row2.setA (by simpa using hv.1) (fun i hi hj => ?_) o hrow, fun c hc => ?_⟩
  ·have := hv.2 i hi
   have he : v.cells.getD i Go.undef = v.cells.toList[i] := by
    have : i < v.cells.size := by simpa using hj
    simp [Array.getD, this]
   rw [← he]
   exact this
  ·rcases setCells_mem hc with hc | hc
   ·exact hcell c hc
   ·exact List.all_eq_true.1 h3 c hc
 ·cases h
theorem fill_sound {ρ : Nat → AV} {a : Act} (hR : TmpsRel G k nl ρ a) (place : Nat → Option (Nat × Nat)) : ∀ (parts : List (Nat × Operand)) (ps : List (Nat × Nat × AOpd)) (cs cs' : List AV) (arr : Array Value),
  compParts P place parts = some ps → Row2 (Rel G k nl) cs arr → (∀ c, c ∈ cs → c.isCell = true) → buildCells cs (evalT ρ) ps = some cs' →
  ∃ arr', Instr.fill place arr (parts.map fun p => (p.1, a.eval p.2)) = some arr' ∧ Row2 (Rel G k nl) cs' arr' ∧ ∀ c, c ∈ cs' → c.isCell = true
 | [], ps, cs, cs', arr, hp, hrow, hcell, h => by
  simp only [compParts] at hp
  injection hp with hp
  subst hp
  simp only [buildCells] at h
  injection h with h
  subst h
  exact ⟨arr, rfl, hrow, hcell⟩
 | (i, x) :: r, ps, cs, cs', arr, hp, hrow, hcell, h => by
  simp only [compParts] at hp
  split at hp
  ·rename_i off size y s' e1 e2 e3
   injection hp with hp
   subst hp
   simp only [buildCells] at h
   split at h
   ·rename_i cs1 hf
    have hx := opd_rel e2 hR
    obtain ⟨g1, g2, g3, g4⟩ := fillOne hrow hcell hx hf
    obtain ⟨arr', k1, k2, k3⟩ := fill_sound hR place r s' cs1 cs' _ e3 g3 g4 h
    refine ⟨arr', ?_, k2, k3⟩
    simp only [List.map_cons, Instr.fill, e1]
    rw [if_neg (by simp only [Bool.or_eq_true, bne_iff_ne, decide_eq_true_eq]; omega), foldl_arr]
    exact k1
   ·cases h
  ·cases hp
theorem zeroP_run {t : TypeId} {zs : List AV} (h : zeroP P t = some zs) : ∃ z, (P.info? t).bind (·.zero) = some z ∧ mapO ofCell z.cells.toList = some zs := by
 unfold zeroP at h
 obtain ⟨z, h1, h2⟩ := Option.bind_eq_some_iff.1 h
 exact ⟨z, h1, h2⟩
theorem places_run (w : World) : ∀ (fs : List Field), (∀ f, f ∈ fs → (sizeP P f.type).isSome = true) →
  (fs.mapM fun f => Functor.map (Prod.mk f.offset) (sizeOf f.type)).run P w = .ok (fs.map fun f => (f.offset, (sizeP P f.type).getD 0)) w
 | [], _ => by simp
 | f :: fs, h => by
  obtain ⟨n, hn⟩ := Option.isSome_iff_exists.1 (h f (by simp))
  simp [List.mapM_cons, sizeOf_run hn, places_run w fs (fun g hg => h g (by simp [hg])), hn]
theorem buildStruct_sound {t : TypeId} {zs cs : List AV} {fs : Array Field} {parts : Array (Nat × Operand)} {ps : List (Nat × Nat × AOpd)} {ρ : Nat → AV} {a : Act} (hR : TmpsRel G k nl ρ a) (hz : zeroP P t = some zs)
    (ht : P.underlying t = some (.struct fs)) (hf : fs.toList.all (fun f => (sizeP P f.type).isSome) = true)
    (hp : compParts P (fun i => match fs[i]? with
        | some f => (sizeP P f.type).map fun s => (f.offset, s)
        | none => none) parts.toList = some ps) (h : buildCells zs (evalT ρ) ps = some cs) :
    ∃ z, (Instr.build t (parts.map fun (i, x) => (i, a.eval x))).run P w = .ok z w ∧ Rel G k nl (.agg cs) z := by
  obtain ⟨z, h1, h2⟩ := zeroP_run hz
  obtain ⟨c1, c2, c3⟩ := cells_rel (I := G.I) h2
  obtain ⟨arr', k1, k2, k3⟩ := fill_sound hR _ parts.toList ps zs cs z.cells hp ⟨c1, fun i hi => .cl (c3 i hi)⟩ c2 h
  refine ⟨.agg arr', ?_, .agg k2.1 k3 k2.2⟩
  have hall : ∀ f, f ∈ fs.toList → (sizeP P f.type).isSome = true := List.all_eq_true.1 hf
  have hpl : (fun x : Nat => (fs.toList.map fun f : Field => (f.offset, (sizeP P f.type).getD 0)).toArray[x]?) = (fun i => match fs[i]? with
        | some f => (sizeP P f.type).map fun s => (f.offset, s)
        | none => none) := by
    funext i
    by_cases hi : i < fs.size
    · obtain ⟨n, hn⟩ := Option.isSome_iff_exists.1 (hall fs[i] (by simp))
      simp [hi, hn]
    · simp [hi]
  have hm : (parts.map fun (i, x) => (i, a.eval x)).toList = parts.toList.map fun p => (p.1, a.eval p.2) := by simp
  simp only [Instr.build, Sem.run_bind, zeroValue_run h1, Result.andThen_ok, run_underlying ht, Sem.run_pure, Array.mapM_eq_mapM_toList, Sem.run_map]
  have hpr := places_run w fs.toList hall
  have hpr' : (fs.toList.mapM fun f => (do pure (f.offset, ← sizeOf f.type) : Sem (Nat × Nat))).run P w = .ok (fs.toList.map fun f : Field => (f.offset, (sizeP P f.type).getD 0)) w := by
    rw [← hpr]
    rfl
  simp only [hpr', Sem.run_bind, Sem.run_map, Result.andThen_ok, hm, hpl, k1, Sem.run_pure]
theorem buildArr_sound {t e : TypeId} {N es : Nat} {zs cs : List AV} {parts : Array (Nat × Operand)} {ps : List (Nat × Nat × AOpd)} {ρ : Nat → AV} {a : Act} (hR : TmpsRel G k nl ρ a) (hz : zeroP P t = some zs)
  (ht : P.underlying t = some (.array N e)) (hs : sizeP P e = some es)
  (hp : compParts P (fun i => some (i * es, es)) parts.toList = some ps) (h : buildCells zs (evalT ρ) ps = some cs) :
  ∃ z, (Instr.build t (parts.map fun (i, x) => (i, a.eval x))).run P w = .ok z w ∧ Rel G k nl (.agg cs) z := by
 obtain ⟨z, h1, h2⟩ := zeroP_run hz
 obtain ⟨c1, c2, c3⟩ := cells_rel (I := G.I) h2
 obtain ⟨arr', k1, k2, k3⟩ := fill_sound hR _ parts.toList ps zs cs z.cells hp ⟨c1, fun i hi => .cl (c3 i hi)⟩ c2 h
 refine ⟨.agg arr', ?_, .agg k2.1 k3 k2.2⟩
 have hm : (parts.map fun (i, x) => (i, a.eval x)).toList = parts.toList.map fun p => (p.1, a.eval p.2) := by simp
 simp only [Instr.build, Sem.run_bind, zeroValue_run h1, Result.andThen_ok, run_underlying ht, Sem.run_pure, sizeOf_run hs, hm, k1]
end
end Go.Ax

/-
  Slices built or made, conversions, the least and the greatest.
-/
namespace Go.Ax
open Go.RowKit
section
variable {P : Program} {B0 : Nat} {w0 : World} {G : Ghost} {k nl : Nat} {w : World} {s : Sig}
theorem byte_getD {q : Array UInt8} {c : Nat} (h : c < q.size) : q.getD c 0 = q[c] := by
 unfold Array.getD
 rw [dif_pos h]
 rfl
theorem close_cell {x z : AV} (h : x.close = some z) : x.isCell = true ∧ z.isCell = true := by
 have hx : x.isCell = true := by
  unfold AV.close at h
  split at h
  ·rfl
  ·split at h
   ·rename_i hc
    cases x with
    | v q => cases q <;> first | rfl | (simp [AV.isClosed, AV.isClosed1] at hc)
    | agg => simp [AV.isClosed, AV.isClosed1] at hc
    | tuple => simp [AV.isClosed, AV.isClosed1] at hc
    | _ => rfl
   ·cases h
 exact ⟨hx, close_isCell h hx⟩
theorem setA_getD {q : Nat} : ∀ (vs : List Value) (o : Nat) (arr : Array Value), o + vs.length ≤ arr.size → (setA arr o vs).getD q Go.undef = if o ≤ q ∧ q < o + vs.length then vs.getD (q - o) Go.undef else arr.getD q Go.undef
 | [], o, arr, _ => by
  rw [if_neg (by simp)]
  rfl
 | v :: r, o, arr, h => by
  simp only [List.length_cons] at h
  simp only [setA]
  rw [setA_getD r (o + 1) _ (by simp; omega)]
  simp only [List.length_cons]
  by_cases h1 : o + 1 ≤ q ∧ q < o + 1 + r.length
  ·rw [if_pos h1, if_pos (by omega)]
   have : q - o = (q - (o + 1)) + 1 := by omega
   rw [this, List.getD_cons_succ]
  ·rw [if_neg h1]
   by_cases h2 : q = o
   ·subst h2
    rw [if_pos (by omega), Nat.sub_self]
    have : q < arr.size := by omega
    simp [Array.getD, this]
   ·rw [if_neg (by omega)]
    by_cases hq : q < arr.size
    ·simp [Array.getD, hq, Ne.symm h2]
    ·simp [Array.getD, hq]
structure Rows (I : IMap) (es : Nat) (rows : List (List AV)) (arr : Array Value) : Prop where
 size : arr.size = rows.length * es
 len : ∀ r, r ∈ rows → r.length = es
 cell : ∀ r, r ∈ rows → ∀ c, c ∈ r → c.isCell = true
 rel : ∀ i (hi : i < rows.length) j (hj : j < rows[i].length), RelC I (rows[i][j]) (arr.getD (i * es + j) Go.undef)
theorem row_lt {i j n es : Nat} (hi : i < n) (hj : j < es) : i * es + j < n * es := by
 calc i * es + j < i * es + es := by omega
  _ = (i + 1) * es := by rw [Nat.add_mul, Nat.one_mul]
  _ ≤ n * es := Nat.mul_le_mul_right _ hi
theorem row_apart {i q j es : Nat} (hj : j < es) (hne : q ≠ i) : ¬ (i * es ≤ q * es + j ∧ q * es + j < i * es + es) := by
 intro ⟨h1, h2⟩
 rcases Nat.lt_or_gt_of_ne hne with h | h
 ·have := row_lt (es := es) h hj
  omega
 ·have : (i + 1) * es ≤ q * es := Nat.mul_le_mul_right _ h
  rw [Nat.add_mul, Nat.one_mul] at this
  omega
theorem Rows.set {I : IMap} {es : Nat} {rows : List (List AV)} {arr : Array Value} (h : Rows I es rows arr) {i : Nat} (hi : i < rows.length) {cs : List AV} {vs : Array Value} (hl : cs.length = es) (hcell : ∀ c, c ∈ cs → c.isCell = true)
  (hR : Row2 (RelC I) cs vs) : Rows I es (rows.set i cs) (setA arr (i * es) vs.toList) := by
 have hvs : vs.toList.length = es := by simp [hR.1, hl]
 have hle : i * es + es ≤ rows.length * es := by
  have : (i + 1) * es ≤ rows.length * es := Nat.mul_le_mul_right _ hi
  rwa [Nat.add_mul, Nat.one_mul] at this
 refine ⟨by rw [setA_size, List.length_set]; exact h.size, fun r hr => ?_, fun r hr => ?_, fun q hq j hj => ?_⟩
 ·rcases List.mem_or_eq_of_mem_set hr with hr | rfl
  ·exact h.len r hr
  ·exact hl
 ·rcases List.mem_or_eq_of_mem_set hr with hr | rfl
  ·exact h.cell r hr
  ·exact hcell
 ·have hq' : q < rows.length := by simpa using hq
  rw [setA_getD _ _ _ (by rw [hvs, h.size]; exact hle), hvs]
  by_cases he : i = q
  ·subst he
   simp only [List.getElem_set_self] at hj ⊢
   rw [if_pos (by omega)]
   have e1 : i * es + j - i * es = j := by omega
   rw [e1]
   have := hR.2 j hj
   have e2 : vs.toList.getD j Go.undef = vs.getD j Go.undef := by
    have : j < vs.size := by rw [hR.1]; exact hj
    simp [Array.getD, this]
   rw [e2]
   exact this
  ·simp only [List.getElem_set_ne he] at hj ⊢
   have hj' : j < es := by rw [← h.len _ (List.getElem_mem hq')]; exact hj
   rw [if_neg (row_apart hj' (Ne.symm he))]
   exact h.rel q hq' j hj
theorem rows_sound {ρ : Nat → AV} {a : Act} (hR : TmpsRel G k nl ρ a) {es : Nat} : ∀ (parts : List (Nat × Operand)) (ps : List (Nat × AOpd)) (rows rows' : List (List AV)) (arr : Array Value),
  compRows parts = some ps → Rows G.I es rows arr → buildRows rows (evalT ρ) ps = some rows' →
  ∃ arr', Instr.fill (fun i => some (i * es, es)) arr (parts.map fun p => (p.1, a.eval p.2)) = some arr' ∧ Rows G.I es rows' arr' ∧ rows'.length = rows.length
 | [], ps, rows, rows', arr, hp, hrow, h => by
  simp only [compRows] at hp
  injection hp with hp
  subst hp
  simp only [buildRows] at h
  injection h with h
  subst h
  exact ⟨arr, rfl, hrow, rfl⟩
 | (i, x) :: r, ps, rows, rows', arr, hp, hrow, h => by
  simp only [compRows] at hp
  split at hp
  ·rename_i y s' e2 e3
   injection hp with hp
   subst hp
   simp only [buildRows] at h
   split at h
   ·rename_i row cs f1 f2
    split at h
    ·rename_i hlen
     obtain ⟨hi, hrow'⟩ := List.getElem?_eq_some_iff.1 f1
     have hrl : row.length = es := hrow.len _ (hrow' ▸ List.getElem_mem hi)
     have hx := opd_rel e2 hR
     obtain ⟨c1, c2⟩ := closeAll_spec f2
     have hall : (evalT ρ y).cells.all AV.isCell = true := by
      rw [List.all_eq_true]
      intro c hc
      obtain ⟨j, hj, rfl⟩ := List.getElem_of_mem hc
      exact (close_cell (c2 j hj (by omega))).1
     have hcv := hx.cells hall
     have hrel : Row2 (RelC G.I) cs (a.eval x).cells := ⟨by rw [hcv.1, c1], fun j hj => (hcv.2 j (by omega)).close (c2 j (by omega) hj)⟩
     have hcc : ∀ c, c ∈ cs → c.isCell = true := fun c hc => by
      obtain ⟨j, hj, rfl⟩ := List.getElem_of_mem hc
      exact (close_cell (c2 j (by omega) hj)).2
     have hset := hrow.set hi (hlen.trans hrl) hcc hrel
     obtain ⟨arr', k1, k2, k3⟩ := rows_sound hR r s' _ rows' _ e3 hset h
     refine ⟨arr', ?_, k2, by rw [k3]; simp⟩
     simp only [List.map_cons, Instr.fill]
     have hsz : (a.eval x).cells.size = es := by rw [hrel.1, hlen, hrl]
     have hle : i * es + es ≤ rows.length * es := by
      have : (i + 1) * es ≤ rows.length * es := Nat.mul_le_mul_right _ hi
      rwa [Nat.add_mul, Nat.one_mul] at this
     have hs2 := hrow.size
     rw [if_neg (by simp only [Bool.or_eq_true, bne_iff_ne, decide_eq_true_eq, hsz]; omega), foldl_arr]
     exact k1
    ·cases h
   ·cases h
  ·cases hp
theorem Rows.slice {I : IMap} {es b cap : Nat} {rows : List (List AV)} {arr : Array Value} (h : Rows I es rows arr) (hI : ∀ i, i < arr.size → I b i = arr[i]?) (hcap : rows.length ≤ cap) : SliceC I es rows ⟨b, 0, none⟩ cap := by
 refine SliceC.mk (fun c => arr.getD c Go.undef) hcap h.len h.cell (fun c hc => ?_) h.rel
 rw [Nat.zero_add, hI c (by rw [h.size]; exact hc)]
 have : c < arr.size := by rw [h.size]; exact hc
 simp [Array.getD, this]
theorem Rows.mono {I I' : IMap} {es : Nat} {rows : List (List AV)} {arr : Array Value} (h : Rows I es rows arr) (hI : ∀ b i v, I b i = some v → I' b i = some v) : Rows I' es rows arr :=
 ⟨h.size, h.len, h.cell, fun i hi j hj => (h.rel i hi j hj).mono hI⟩
theorem newI (h : At P B0 w0 G k nl s w) {es n : Nat} {rows : List (List AV)} {arr : Array Value} (ty : TypeId) (hr : Rows G.I es rows arr) (hn : rows.length = n) :
  StepTo P B0 w0 G k nl s s (w.alloc (.cells arr ty)) (.slice .full es rows) (.slice (some ⟨w.heap.size, 0, none⟩) n n) := by
 subst hn
 have hle := G.addI_le w.heap.size arr h.rel.I_new (k + 1) s.loops.length
 have hs := h.rel.allocI arr ty (0, 0)
 refine ⟨_, h.to hs (hle.less (by omega) h.nle) rfl, hle, rfl, .cl (toFull rfl ?_)⟩
 refine (hr.mono hle.I).slice (fun i hi => ?_) (Nat.le_refl _)
 simp [Ghost.addI]
theorem flat_get (zs : List AV) (h : 0 < zs.length) : ∀ (n q : Nat), q < n * zs.length → ((List.replicate n zs).flatten)[q]? = zs[q % zs.length]?
 | 0, q, hq => by simp at hq
 | n + 1, q, hq => by
  simp only [List.replicate_succ, List.flatten_cons]
  by_cases hlt : q < zs.length
  ·rw [List.getElem?_append_left hlt, Nat.mod_eq_of_lt hlt]
  ·rw [Nat.add_mul, Nat.one_mul] at hq
   rw [List.getElem?_append_right (by omega), flat_get zs h n _ (by omega), ← Nat.mod_eq_sub_mod (by omega)]
theorem flat_len (zs : List AV) (n : Nat) : (List.replicate n zs).flatten.length = n * zs.length := by simp
theorem zero_get {I : IMap} {z : Value} {zs : List AV} (hz : mapO ofCell z.cells.toList = some zs) (h0 : 0 < zs.length) (q : Nat) : RelC I (zs[q % zs.length]'(Nat.mod_lt _ h0)) (z.cells[q % z.cells.size]!) := by
 obtain ⟨c1, c2, c3⟩ := cells_rel (I := I) hz
 have hlt : q % zs.length < z.cells.size := by rw [c1]; exact Nat.mod_lt _ h0
 have := c3 (q % zs.length) (Nat.mod_lt _ h0)
 rw [c1]
 have e : z.cells[q % zs.length]! = z.cells.getD (q % zs.length) Go.undef := by simp [Array.getD, hlt]
 rw [e]
 exact this
theorem zero_rows {I : IMap} {es n : Nat} {z : Value} {zs : List AV} (hz : mapO ofCell z.cells.toList = some zs) (hl : zs.length = es) (h0 : 0 < es) : Rows I es (List.replicate n zs) ((Array.range (n * es)).map (z.cells[· % z.cells.size]!)) := by
 obtain ⟨c1, c2, c3⟩ := cells_rel (I := I) hz
 refine ⟨by simp, fun r hr => ?_, fun r hr => ?_, fun i hi j hj => ?_⟩
 ·rw [(List.mem_replicate.1 hr).2]; exact hl
 ·rw [(List.mem_replicate.1 hr).2]; exact c2
 ·have hi' : i < n := by simpa using hi
  have hj' : j < es := by simp only [List.getElem_replicate] at hj; omega
  have hlt : i * es + j < n * es := row_lt hi' hj'
  have hm : (i * es + j) % es = j := by rw [Nat.mul_comm, Nat.mul_add_mod, Nat.mod_eq_of_lt hj']
  have := zero_get (I := I) hz (by omega) (i * es + j)
  simp only [hl, hm] at this
  have e : ((Array.range (n * es)).map (z.cells[· % z.cells.size]!)).getD (i * es + j) Go.undef = z.cells[(i * es + j) % z.cells.size]! := by simp [Array.getD, hlt]
  rw [e]
  simp only [List.getElem_replicate]
  exact this
theorem buildSlice_sound (h : At P B0 w0 G k nl s w) {t e : TypeId} {es len : Nat} {zs : List AV} {rows : List (List AV)} {parts : Array (Nat × Operand)} {ps : List (Nat × AOpd)} {ρ : Nat → AV} {a : Act} (hR : TmpsRel G k nl ρ a)
  (ht : P.underlying t = some (.slice e)) (hs : sizeP P e = some es) (hz : zeroP P e = some zs) (hp : compRows parts.toList = some ps) (hle : len * es ≤ 2 ^ 24) (hl : zs.length = es) (h0 : 0 < es)
  (hb : buildRows (List.replicate len zs) (evalT ρ) ps = some rows) :
  ∃ z w', (Instr.buildSlice t len (parts.map fun (i, x) => (i, a.eval x))).run P w = .ok z w' ∧ StepTo P B0 w0 G k nl s s w' (.slice .full es rows) z := by
 obtain ⟨z, h1, h2⟩ := zeroP_run hz
 have hrows := zero_rows (I := G.I) (n := len) h2 hl h0
 have hm : (parts.map fun (i, x) => (i, a.eval x)).toList = parts.toList.map fun p => (p.1, a.eval p.2) := by simp
 obtain ⟨arr', k1, k2, k3⟩ := rows_sound hR parts.toList ps _ rows _ hp hrows hb
 have hlen : rows.length = len := by rw [k3]; simp
 refine ⟨_, _, ?_, newI h e k2 hlen⟩
 have hngt : ¬ (len * es > 2 ^ 24) := by omega
 by_cases hn : len * es = 0
 ·have hl0 : len = 0 := by
   rcases Nat.mul_eq_zero.1 hn with h' | h'
   ·exact h'
   ·omega
  subst hl0
  simp only [Nat.zero_mul, Array.range_zero', Array.map_empty] at k1
  have e0 : ((Array.range 0).map fun x : Nat => ((#[] : Array Value)[x % (#[] : Array Value).size]!)) = #[] := by simp
  simp only [Instr.buildSlice, Sem.run_bind, run_underlying ht, Result.andThen_ok, sizeOf_run hs, if_neg hngt, if_pos hn, Sem.run_pure, hm]
  simp only [Nat.zero_mul, e0, k1, newRow, run_newObj, Sem.run_bind, Result.andThen_ok, Sem.run_pure]
  rfl
 ·simp only [Instr.buildSlice, Sem.run_bind, run_underlying ht, Result.andThen_ok, sizeOf_run hs, if_neg hngt, if_neg hn, zeroValue_run h1, Sem.run_pure, hm, k1, newRow, run_newObj]
  rfl
theorem mkSlice_sound (h : At P B0 w0 G k nl s w) {t e : TypeId} {es by_ : Nat} {zs : List AV} {l c v : AV} {lv cv : Value} {s' : Sig} (ht : P.underlying t = some (.slice e)) (hs : sizeP P e = some es) (hby : bytesP P e = some by_)
  (hz : zeroP P e = some zs) (hl : zs.length = es) (h0 : 0 < es) (hble : by_ ≤ 4096) (hx : Rel G k nl l lv) (hy : Rel G k nl c cv) (hm : mkSliceOp s es zs l c = some (v, s')) :
  ∃ z w', (Instr.makeSlice t lv cv).run P w = .ok z w' ∧ StepTo P B0 w0 G k nl s s' w' v z := by
 unfold mkSliceOp at hm
 obtain ⟨cn, hc, hm⟩ := Option.bind_eq_some_iff.1 hm
 obtain ⟨ln, hln, hm⟩ := Option.map_eq_some_iff.1 hm
 obtain ⟨kc, zc, rfl, zc0, zc1, rfl⟩ := asNat_rel hy hc
 obtain ⟨kl, zl, rfl, zl0, zl1, rfl⟩ := asNat_rel hx hln
 obtain ⟨z, h1, h2⟩ := zeroP_run hz
 obtain ⟨i, hi, rfl⟩ := info_of hby
 have hsz : i.size = es := by
  unfold sizeP at hs
  rw [hi] at hs
  simpa using hs
 have hzi : i.zero = some z := by
  rw [hi] at h1
  simpa using h1
 have hzc : zl ≤ zc := by omega
 have hmost : zc ≤ 4294967296 := by unfold most at zc1; exact zc1
 have hbytes : (i.bytes : Int) * zc ≤ 281474976710656 := by
  calc (i.bytes : Int) * zc ≤ 4096 * zc := Int.mul_le_mul_of_nonneg_right (by omega) zc0
   _ ≤ 281474976710656 := by omega
 have hrun := run_make (P := P) w t e i z ht hi hzi kl kc zl zc zl0 hzc hbytes (by omega)
 rw [hsz] at hrun
 refine ⟨_, _, hrun, ?_⟩
 split at hm
 ·rename_i he
  injection hm with hm1 hm2
  subst hm1 hm2
  have hz0 : zc.toNat = 0 := by
   have hle := flat_len zs zc.toNat
   have he' : (List.replicate zc.toNat zs).flatten = [] := by simpa using he
   rw [he', List.length_nil, hl] at hle
   rcases Nat.mul_eq_zero.1 hle.symm with h' | h'
   ·exact h'
   ·omega
  have hz1 : zl.toNat = 0 := by omega
  rw [hz0, hz1]
  exact ⟨_, h.to (h.rel.allocI _ _ _) (G.addI_le _ _ h.rel.I_new _ _) rfl, G.addI_le _ _ h.rel.I_new _ _, rfl, .cl (.empty (.inr rfl))⟩
 rename_i hne
 injection hm with hm1 hm2
 subst hm1 hm2
 have hrow : Row2 (Rel G k nl) (List.replicate zc.toNat zs).flatten (madeCells z.cells (zc.toNat * es)) := by
  refine ⟨by rw [size_madeCells, flat_len, hl], fun q hq => ?_⟩
  rw [flat_len] at hq
  have hg := flat_get zs (by omega) zc.toNat q hq
  have hmod : q % zs.length < zs.length := Nat.mod_lt _ (by omega)
  rw [List.getElem?_eq_getElem hmod, List.getElem?_eq_getElem (by rw [flat_len]; exact hq)] at hg
  injection hg with hg
  rw [hg]
  have := zero_get (I := G.I) h2 (by omega) q
  have e : (madeCells z.cells (zc.toNat * es)).getD q Go.undef = z.cells[q % z.cells.size]! := by
   have : q < zc.toNat * es := by rw [← hl]; exact hq
   simp [madeCells, Array.getD, this]
  rw [e]
  exact .cl this
 have hcells : ∀ c, c ∈ (List.replicate zc.toNat zs).flatten → c.isCell = true := fun c hc => by
  obtain ⟨r, hr, hc⟩ := List.mem_flatten.1 hc
  rw [(List.mem_replicate.1 hr).2] at hc
  exact (cells_rel (I := G.I) h2).2.1 c hc
 exact (newBox_sound h e none (fun _ e => by cases e) (fun e => hne (by rw [e]; rfl)) hcells hrow.le).2.2 es zl.toNat zc.toNat zc.toNat (by omega) (Nat.le_refl _) (fun e1 e2 => by omega)
theorem bytesOf_spec {xs : List (List AV)} {l : List UInt8} (hl : bytesOf xs = some l) : l.length = xs.length ∧ ∀ i (hi : i < xs.length) (hj : i < l.length), xs[i] = [.v (.int .u8 (l[i].toNat : Int))] := by
 induction xs generalizing l with
 | nil => simp only [bytesOf] at hl; injection hl with hl; subst hl; simp
 | cons x r ih =>
  simp only [bytesOf] at hl
  split at hl
  ·rename_i b s' hb hs'
   injection hl with hl
   subst hl
   obtain ⟨i1, i2⟩ := ih hs'
   refine ⟨by simp [i1], fun i hi hj => ?_⟩
   cases i with
   | zero =>
    simp only [List.getElem_cons_zero]
    unfold byteOf at hb
    split at hb
    ·split at hb
     ·rename_i n hn
      injection hb with hb
      subst hb
      have : ((UInt8.ofNat n.toNat).toNat : Int) = n := by
       rw [UInt8.toNat_ofNat']
       omega
      rw [this]
     ·cases hb
    ·cases hb
   | succ i => simpa using i2 i (by simpa using hi) (by simpa using hj)
  ·cases hl
theorem conv_sound (h : At P B0 w0 G k nl s w) {src dst : TypeId} {x : Operand} {ax : AOpd} {op : AOp} {kd : ConvKind} {a v : AV} {y : Value} (hc : compConv P src dst ax = some (.conv kd ax)) (hx : Rel G k nl a y) (hv : convOp kd a = some v) :
  ∃ z w', (convert src dst y).run P w = .ok z w' ∧ StepTo P B0 w0 G k nl s s w' v z := by
 unfold compConv at hc
 split at hc
 ·rename_i k1 k2 hs hd
  injection hc with hc
  injection hc with hc
  subst hc
  cases a with
  | v q =>
   obtain rfl := hx.inv_v
   cases y with
   | int k3 n =>
    simp only [convOp] at hv
    injection hv with hv
    subst hv
    exact ⟨_, w, by simp [convert, run_underlying hs, run_underlying hd, Conv.intToInt], .same h (.val _ rfl)⟩
   | _ => simp [convOp] at hv
  | _ => simp [convOp] at hv
 ·rename_i hs hd
  injection hc with hc
  injection hc with hc
  subst hc
  cases a with
  | v q =>
   obtain rfl := hx.inv_v
   cases y with
   | string q =>
    simp only [convOp] at hv
    injection hv with hv
    subst hv
    exact ⟨_, w, by simp [convert, run_underlying hs, run_underlying hd], .same h (.val _ rfl)⟩
   | _ => simp [convOp] at hv
  | _ => simp [convOp] at hv
 ·rename_i e hs hd
  split at hc
  ·rename_i he
   injection hc with hc
   injection hc with hc
   subst hc
   cases a with
   | v q =>
    obtain rfl := hx.inv_v
    cases y with
    | string q =>
     simp only [convOp] at hv
     injection hv with hv
     subst hv
     refine ⟨_, _, run_bytes_of_string w src dst e q hs hd he, ?_⟩
     have hrel := (h.rel.drew).allocI (bytesRow q (grownCap w q.size 0 e)) e ((bytesRow q (grownCap w q.size 0 e)).size, (bytesRow q (grownCap w q.size 0 e)).size + 1)
     have hle := G.addI_le w.heap.size (bytesRow q (grownCap w q.size 0 e)) h.rel.I_new (k + 1) s.loops.length
     refine ⟨_, h.to hrel (hle.less (by omega) h.nle) rfl, hle, rfl, .cl ?_⟩
     have hlen : (byteCells q).length = q.size := by simp only [byteCells, List.length_map, Array.length_toList]; rfl
     have hget : ∀ i (hi : i < (byteCells q).length), (byteCells q)[i] = [.v (.int .u8 ((q.data[i]'(by rw [hlen] at hi; exact hi)).toNat : Int))] := fun i hi => by
      simp [byteCells]
     have : SliceC ((G.addI w.heap.size (bytesRow q (grownCap w q.size 0 e))).I) 1 (byteCells q) ⟨w.heap.size, 0, none⟩ (grownCap w q.size 0 e) := by
      refine SliceC.mk (fun c => (.int .u8 ((q.data.getD c 0).toNat : Int))) (by rw [hlen]; exact grownCap_ge _ _ _ _) (fun r hr => ?_) (fun r hr c hc => ?_) (fun c hc => ?_) (fun i hi j hj => ?_)
      ·obtain ⟨i, hi, rfl⟩ := List.getElem_of_mem hr
       rw [hget i hi]; rfl
      ·obtain ⟨i, hi, rfl⟩ := List.getElem_of_mem hr
       rw [hget i hi] at hc
       simp only [List.mem_singleton] at hc
       subst hc
       rfl
      ·rw [hlen, Nat.mul_one] at hc
       simp only [Ghost.addI, if_true, Nat.zero_add]
       have hc' : c < q.data.size := hc
       rw [bytesRow_at q _ c hc', byte_getD hc']
      ·have hi' : i < q.data.size := by rw [hlen] at hi; exact hi
       have hj0 : j = 0 := by rw [hget i hi] at hj; simpa using hj
       subst hj0
       simp only [hget i hi, List.getElem_cons_zero, Nat.mul_one, Nat.add_zero]
       rw [byte_getD hi']
       exact .v rfl
     unfold SliceC at this
     rw [hlen] at this
     exact this
    | _ => simp [convOp] at hv
   | _ => simp [convOp] at hv
  ·cases hc
 ·rename_i e hs hd
  split at hc
  ·rename_i he
   injection hc with hc
   injection hc with hc
   subst hc
   cases a with
   | slice o es xs =>
    simp only [convOp] at hv
    obtain ⟨l, hl, rfl⟩ := Option.map_eq_some_iff.1 hv
    rcases hx.inv_slice with ⟨_, rfl, rfl⟩ | ⟨_, p, cap, rfl, hsp, hcap, hxc, _⟩
    ·simp only [bytesOf] at hl
     injection hl with hl
     subst hl
     refine ⟨_, w, ?_, .same h (.val _ rfl)⟩
     rw [run_convert_bytes_string w src dst e none 0 0 hs he hd]
     simp [Conv.bytesToString]
     rfl
    ·have hbs : l.length = xs.length ∧ ∀ i (hi : i < xs.length) (hj : i < l.length), xs[i] = [.v (.int .u8 (l[i].toNat : Int))] := bytesOf_spec hl
     obtain ⟨b1, b2⟩ := hbs
     refine ⟨_, w, ?_, .same h (.val _ rfl)⟩
     rw [← b1]
     refine run_convert_bytes_back w src dst e p cap l hs he hd (fun j hj => ?_)
     have hj' : j < xs.length := by omega
     cases hxc with
     | empty => exact absurd hj' (Nat.not_lt_zero _)
     | @slice _ _ _ blk off _ f ho hc hes hcell hI hR =>
      have hlen1 : xs[j].length = 1 := by rw [b2 j hj' hj]; rfl
      have hes1 : es = 1 := by rw [← hes _ (List.getElem_mem hj'), hlen1]
      have h1 := hI j hj' 0 (by omega)
      have h2 := hR j hj' 0 (by omega)
      have e0 : xs[j][0] = .v (.int .u8 (l[j].toNat : Int)) := by simp [b2 j hj' hj]
      rw [e0] at h2
      cases hf : f j 0 with
      | int k3 n =>
       rw [hf] at h2 h1
       cases h2
       rw [addr_add]
       have := h.rel.imm _ _ _ h1
       rw [hes1] at this
       simpa using this
      | _ => rw [hf] at h2; cases h2
   | v q => cases q <;> simp [convOp] at hv
   | _ => simp [convOp] at hv
  ·cases hc
 ·cases hc
theorem maxOp_run {mx : Bool} {a b v : AV} {x y : Value} (hx : Rel G k nl a x) (hy : Rel G k nl b y) (h : maxOp mx a b = some v) :
  ∃ z, ((if mx then Builtin.max2 else Builtin.min2) x y).run P w = .ok z w ∧ Rel G k nl v z := by
 unfold maxOp at h
 split at h
 ·obtain rfl := hx.inv_v
  obtain rfl := hy.inv_v
  split at h
  ·injection h with h
   subst h
   refine ⟨_, ?_, .val _ rfl⟩
   cases mx <;> simp [Builtin.max2, Builtin.min2]
  ·cases h
 ·cases h
theorem maxFold_run {mx : Bool} : ∀ {as : List AV} {xs : List Value} {a v : AV} {x : Value}, Rel G k nl a x → xs.length = as.length → (∀ i (hi : i < as.length) (hj : i < xs.length), Rel G k nl as[i] xs[i]) → maxFold mx a as = some v →
  ∃ z, (xs.foldlM (if mx then Builtin.max2 else Builtin.min2) x).run P w = .ok z w ∧ Rel G k nl v z
 | [], [], a, v, x, hx, _, _, h => by
  simp only [maxFold] at h
  injection h with h
  subst h
  exact ⟨x, by simp, hx⟩
 | [], _ :: _, _, _, _, _, hl, _, _ => by simp at hl
 | _ :: _, [], _, _, _, _, hl, _, _ => by simp at hl
 | b :: as, y :: xs, a, v, x, hx, hl, hR, h => by
  simp only [maxFold] at h
  split at h
  ·rename_i z hz
   obtain ⟨z', r1, r2⟩ := maxOp_run (P := P) (w := w) hx (hR 0 (by simp) (by simp)) hz
   obtain ⟨z'', r3, r4⟩ := maxFold_run r2 (by simpa using hl) (fun i hi hj => hR (i + 1) (by simpa using hi) (by simpa using hj)) h
   refine ⟨z'', ?_, r4⟩
   have r1' : ((if mx then Builtin.max2 else Builtin.min2) x y).run P w = .ok z' w := r1
   simp only [List.foldlM_cons, Sem.run_bind, r1', Result.andThen_ok, r3]
  ·cases h
theorem minmax_sound {mx : Bool} {as : List AV} {xs : Array Value} {v : AV} (ts : Array TypeId) (ty : TypeId) (hl : xs.size = as.length) (hR : ∀ i (hi : i < as.length), Rel G k nl as[i] (xs.getD i Go.undef)) (h : minmaxOp mx as = some v) :
  ∃ z, ((if mx then Builtin.max_ else Builtin.min_) ts ty xs).run P w = .ok z w ∧ Rel G k nl v z := by
 cases as with
 | nil => simp [minmaxOp] at h
 | cons a as =>
  simp only [minmaxOp] at h
  obtain ⟨ys⟩ := xs
  cases ys with
  | nil => simp at hl
  | cons y ys =>
   have h0 := hR 0 (by simp)
   simp only [List.getElem_cons_zero] at h0
   obtain ⟨z, r1, r2⟩ := maxFold_run (P := P) (w := w) (xs := ys) (x := y) (by simpa using h0) (by simpa using hl) (fun i hi hj => by
    have := hR (i + 1) (by simpa using hi)
    simpa [Array.getD, hj] using this) h
   refine ⟨z, ?_, r2⟩
   cases mx <;> simpa [Builtin.max_, Builtin.min_] using r1
end
end Go.Ax

/-
  A slice that may be written to becomes one that is only read: its box is dead from here on.
-/
namespace Go.Ax
open Go.RowKit
section
variable {P : Program} {B0 : Nat} {w0 : World} {G : Ghost} {k nl : Nat} {w : World} {s : Sig}
theorem kill_sound (h : At P B0 w0 G k nl s w) {b : Nat} {cs : List AV} {r : Rec} {gr : GRec} {blk : Nat} (hr : s.acts[k]? = some r) (hg : G.acts[k]? = some gr)
  (hb : r.boxes[b]? = some cs) (hbl : gr.bl[b]? = some (some blk)) (hcs : cs ≠ []) :
  ∃ G', At P B0 w0 G' k nl (s.kill b) w ∧ GLe (k + 1) s.loops.length G G' ∧ ∀ i, G'.I blk i = w.cell? ⟨blk, i, none⟩ := by
 have hrr := h.rel.rec_ k r gr hr hg
 have hbx := hrr.box b cs blk hb hbl
 obtain ⟨b1, ⟨x0, b2, b2'⟩, b3, arr0, ty0, b4, _⟩ := hbx
 have hx0 := b2' hcs
 subst hx0
 have b3 := b3 hcs
 have hbnd : x0 < r.boxes.length := (List.getElem?_eq_some_iff.1 hb).1
 let T : TokG := ⟨none, 0, 0, 0⟩
 let gf : GRec → GRec := fun q => { q with tk := q.tk ++ [T] }
 let G' : Ghost := { G with acts := G.acts.modify k gf, I := fun c i => if c = blk then w.cell? ⟨c, i, none⟩ else G.I c i }
 have hI : ∀ c i v, G.I c i = some v → G'.I c i = some v := fun c i v e => by
  simp only [G']
  split
  ·rename_i hc
   subst hc
   rw [b3] at e; cases e
  ·exact e
 have hk : KeepsOwn (· = .box k x0) G w G' w := fun c o e hne => by
  refine ⟨e, rfl, fun i hi => ?_⟩
  simp only [G']
  split
  ·rename_i hc
   subst hc
   rw [b2] at e
   injection e with e
   exact absurd e.symm hne
  ·exact hi
 have hle0 : RecLe gr (gf gr) := ⟨fun j q e => e, fun g U e => ⟨U, get_old e, .refl U⟩, rfl, fun j m e => e⟩
 have hle : GLe k nl G G' := ⟨hI, fun d q _ e => by
  simp only [G', modify_get]
  by_cases hd : k = d
  ·subst hd
   rw [hg] at e
   injection e with e
   subst e
   exact ⟨_, by rw [if_pos rfl, hg]; rfl, hle0, fun _ => rfl⟩
  ·exact ⟨q, by rw [if_neg hd]; exact e, .refl q, fun _ => rfl⟩, fun _ _ _ e => e⟩
 have hnl : gr.nl = nl := by obtain ⟨g', e1, e2⟩ := h.cur; rw [hg] at e1; injection e1 with e1; rw [e1]; exact e2
 have hstep := h.rel.onRec (G' := G') (w' := w) hr hg (fun r => { r with boxes := r.boxes.set x0 [], toks := r.toks ++ [none] }) gf (· = .box k x0) rfl rfl hI hle0 rfl hk
  (fun o ho => .inl ⟨_, ho⟩) ?_ (fun c i v e => ?_) (Below.refl _ _) (fun c o e => h.rel.ownlt c o e)
 ·obtain ⟨hs, hle'⟩ := hstep
  have hs' : SRel P B0 w0 G' (s.kill x0) w := by
   simp only [Sig.kill, h.cur_eq]
   exact hs
  exact ⟨G', h.to hs' hle (by simp [Sig.kill, Sig.onRec]), hle' _ _, fun i => by simp only [G']; rw [if_pos trivial]⟩
 ·refine ⟨by simp [gf, hrr.blen], by simp [gf, hrr.tlen], fun j q blk2 e1 e2 => ?_, fun j q e1 e2 => by simp, fun g m U e1 e2 => ?_, fun i c e1 => ?_, fun j m e1 => hrr.gsl j m e1⟩
  ·have e2' : gr.bl[j]? = some (some blk2) := e2
   rw [List.getElem?_set] at e1
   by_cases hjx : x0 = j
   ·subst hjx
    rw [if_pos rfl, if_pos hbnd] at e1
    injection e1 with e1
    subst e1
    rw [hbl] at e2'
    injection e2' with e2'
    injection e2' with e2'
    subst e2'
    exact ⟨b1, ⟨x0, b2, fun _ => rfl⟩, fun hn => absurd rfl hn, arr0, ty0, b4, Nat.zero_le _, fun hn => absurd rfl hn, fun i hi => absurd hi (Nat.not_lt_zero _)⟩
   ·rw [if_neg hjx] at e1
    have hjb := hrr.box j q blk2 e1 e2'
    by_cases hq0 : q = []
    ·subst hq0
     obtain ⟨y1, ⟨x, y2, _⟩, _, arr1, ty1, y4, _⟩ := hjb
     exact ⟨y1, ⟨x, y2, fun hn => absurd rfl hn⟩, fun hn => absurd rfl hn, arr1, ty1, y4, Nat.zero_le _, fun hn => absurd rfl hn, fun i hi => absurd hi (Nat.not_lt_zero _)⟩
    ·obtain ⟨x, y1, y2⟩ := hjb.2.1
     obtain ⟨k1, k2, k3⟩ := hk _ _ y1 (fun e => by injection e with _ e; rw [y2 hq0] at e; exact hjx e.symm)
     exact hjb.keep (G' := G') (w' := w) (by rw [hnl]; exact hle) (fun z e => by rw [y1] at e; injection e with e; rw [← e]; exact k1) k2 k3
  ·rcases get_push e1 with ⟨hlt, e1⟩ | ⟨hgl, rfl⟩
   ·have e2' : gr.tk[g]? = some U := by
     rcases get_push e2 with ⟨_, e2⟩ | ⟨hb', _⟩
     ·exact e2
     ·rw [hrr.tlen] at hb'; omega
    have ht := hrr.tok g m U e1 e2'
    have hs : ∀ (hn : m.isSome = true), G'.own U.blk = some (.tok k g) ∧ w.heap[U.blk]? = w.heap[U.blk]? ∧ ∀ i, G.I U.blk i = none → G'.I U.blk i = none := fun hn => by
     obtain ⟨q, hq⟩ := Option.isSome_iff_exists.1 hn
     exact hk _ _ (ht.2 q hq).2.1 (fun e => by cases e)
    exact ht.keep (fun hn => (hs hn).1) (fun hn => (hs hn).2.1) (fun hn => (hs hn).2.2)
   ·have : U = T := by
     rcases get_push e2 with ⟨hb', _⟩ | ⟨_, e⟩
     ·rw [hrr.tlen] at hb'; omega
     ·exact e
    subst this
    exact ⟨rfl, fun q hq => by cases hq⟩
  ·have hm := hrr.mark i c e1
   obtain ⟨k1, k2, _⟩ := hk _ _ hm.2.1 (fun e => by cases e)
   exact hm.keep k1 k2
 ·simp only [G'] at e
  split at e
  ·exact e
  ·exact h.rel.imm c i v e
theorem freeze_sound (h : At P B0 w0 G k nl s w) {x v : AV} {z : Value} {s' : Sig} (hx : Rel G k nl x z) (hf : freezeOp s x = some (v, s')) : StepTo P B0 w0 G k nl s s' w v z := by
 cases x with
 | slice o es xs =>
  simp only [freezeOp] at hf
  injection hf with hf
  injection hf with e1 e2
  subst e1 e2
  exact ⟨G, h, GLe.refl _ _ _, rfl, hx⟩
 | rsl d b off es n cap =>
  simp only [freezeOp] at hf
  split at hf
  case isFalse => cases hf
  rename_i hd
  rw [h.cur_eq] at hd
  subst hd
  obtain ⟨cs, hb, hf⟩ := Option.bind_eq_some_iff.1 hf
  split at hf
  ·cases hf
  rename_i hem
  split at hf
  case isFalse => cases hf
  rename_i hle
  obtain ⟨cs', hc, hf⟩ := Option.map_eq_some_iff.1 hf
  injection hf with e1 e2
  subst e1 e2
  have hcs : cs ≠ [] := fun e => by rw [e] at hem; exact hem rfl
  obtain ⟨blk, gr', rc, o0, rfl, _, hg, hbl, hn, _, _, ho⟩ := hx.inv_rsl
  obtain ⟨r, hr, hrb, _, arr, ty, hw, hrow, hcl⟩ := h.box (Nat.le_refl _) hb hg hbl
  obtain ⟨c1, c2, c3⟩ := closeAll_rel hc hrow.1 hcl hrow.2
  obtain ⟨G', a1, a2, a3⟩ := kill_sound h hr hg hrb hbl hcs
  refine ⟨G', a1, a2, by simp [Sig.kill, Sig.onRec], .cl ?_⟩
  rcases Nat.eq_zero_or_pos n with hn0 | hn0
  ·subst hn0
   exact .slice (fun _ _ => Go.undef) (.inl rfl) (Nat.zero_le _) (fun r hr => absurd hr (by simp [chunks])) (fun r hr => absurd hr (by simp [chunks])) (fun i hi => absurd hi (Nat.not_lt_zero _)) (fun i hi => absurd hi (Nat.not_lt_zero _))
  have ho := ho (.inl hn0)
  subst ho
  have := row_slice (I := G'.I) (cs := cs') (es := es) (n := n) (cap := rc) (blk := blk) (o0 := 0) (off := o0) (f := fun i => arr.getD i Go.undef) c2 (fun i hi => by
   have : i < arr.size := by have := hrow.1; omega
   rw [Nat.zero_add, a3, cell_of_heap hw]
   simp [Array.getD, this]) (fun i hi => (c3 i hi).mono a2.I) (by rw [c1]; exact hle) hn
  unfold SliceC at this
  rw [(chunks_spec es n (cs'.drop o0) (by simp [c1]; omega)).1, Nat.zero_add] at this
  exact this
 | _ => cases hf
theorem buildFz_sound (h : At P B0 w0 G k nl s w) {t e : TypeId} {es : Nat} {zs : List AV} {q : Nat} {ρ : Nat → AV} {a : Act} {v : AV} {s' : Sig} (hR : TmpsRel G k nl ρ a)
  (ht : P.underlying t = some (.slice e)) (hs : sizeP P e = some es) (hz : zeroP P e = some zs) (hle : 1 * es ≤ 2 ^ 24) (hl : zs.length = es) (h0 : 0 < es)
  (hb : buildFzOp s es zs (ρ q) = some (v, s')) :
  ∃ z w', (Instr.buildSlice t 1 ((#[(0, Operand.tmp q)] : Array (Nat × Operand)).map fun (i, x) => (i, a.eval x))).run P w = .ok z w' ∧ StepTo P B0 w0 G k nl s s' w' v z := by
 unfold buildFzOp at hb
 obtain ⟨⟨x, s1⟩, h1, hb⟩ := Option.bind_eq_some_iff.1 hb
 obtain ⟨rs, h2, hb⟩ := Option.map_eq_some_iff.1 hb
 injection hb with e1 e2
 subst e1 e2
 obtain ⟨G1, a1, a2, a3, a4⟩ := freeze_sound h (hR q) h1
 have hR1 : TmpsRel G1 k nl (put q x ρ) a := fun u => by
  unfold put
  split
  ·rename_i hu
   subst hu
   exact a4
  ·exact (hR u).mono (a2.less (by omega) h.nle) (Nat.le_refl _) (Nat.le_refl _)
 have hput : evalT (put q x ρ) (.tmp q) = x := by simp [evalT, put]
 obtain ⟨z, w', r1, G2, b1, b2, b3, b4⟩ := buildSlice_sound (len := 1) (parts := #[(0, .tmp q)]) (rows := rs) a1 hR1 ht hs hz rfl hle hl h0 (by
  rw [← h2]
  simp only [List.replicate_one, buildRows, hput])
 exact ⟨z, w', r1, G2, b1, a2.trans (by rw [← a3]; exact b2), b3.trans a3, b4⟩
end
end Go.Ax
