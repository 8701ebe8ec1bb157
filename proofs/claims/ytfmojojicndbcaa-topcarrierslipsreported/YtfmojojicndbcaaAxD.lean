/-
  Operations that only compute: what the abstract executor gives is what the model's run gives.
-/
import Derived.Test.YtfmojojicndbcaaAxC
namespace Go.Ax
open Go.RowKit

section
variable {P : Program} {B0 : Nat} {w0 : World} {G : Ghost} {k nl : Nat} {w : World}

theorem Rel.inv_v {x y : Value} (h : Rel G k nl (.v x) y) : y = x := by
  cases h with
  | cl h => cases h; rfl
  | undef => rfl

/-- The cells of a slice that is only read. -/
abbrev SliceC (I : IMap) (es : Nat) (xs : List (List AV)) (a : Addr) (cap : Nat) : Prop := RelC I (.slice .any es xs) (.slice (some a) xs.length cap)

theorem Rel.inv_slice {o : Own} {es : Nat} {xs : List (List AV)} {y : Value} (h : Rel G k nl (.slice o es xs) y) :
    (o = .nilS ∧ xs = [] ∧ y = .slice none 0 0) ∨ (o ≠ .nilS ∧ ∃ a cap, y = .slice (some a) xs.length cap ∧ (0 < cap → a.spot = none) ∧ xs.length ≤ cap ∧ SliceC G.I es xs a cap ∧ (o = .full → cap = xs.length)) := by
  cases h with
  | cl h =>
    cases h with
    | nilS => exact .inl ⟨rfl, rfl, rfl⟩
    | slice f ho hc hes hcell hI hR =>
      refine .inr ⟨by rcases ho with rfl | ⟨rfl, _⟩ <;> simp, _, _, rfl, fun _ => rfl, hc, .slice f (.inl rfl) hc hes hcell hI hR, ?_⟩
      rintro rfl
      rcases ho with h | ⟨_, h⟩
      · cases h
      · exact h
    | empty ho =>
      exact .inr ⟨by rcases ho with rfl | rfl <;> simp, _, _, rfl, fun h => absurd h (Nat.lt_irrefl _), Nat.le_refl _, .empty (.inl rfl), fun _ => rfl⟩
  | tok T gr hd hg ht hes hc hn =>
    refine .inr ⟨by simp, _, _, rfl, ?_, ?_, hc, by simp⟩
    · cases hc with
      | slice => exact fun _ => rfl
      | empty => exact fun h => absurd h (Nat.lt_irrefl _)
    · cases hc with
      | slice f ho hc => exact hc
      | empty => exact Nat.le_refl _

theorem Rel.inv_ptr {d b off : Nat} {y : Value} (h : Rel G k nl (.ptr d b off) y) :
    ∃ blk gr, y = .pointer (some ⟨blk, off, none⟩) ∧ d ≤ k ∧ G.acts[d]? = some gr ∧ gr.bl[b]? = some blk := by
  cases h with
  | cl h => cases h
  | ptr gr hd hg hb => exact ⟨_, gr, rfl, hd, hg, hb⟩

theorem Rel.inv_rsl {d b off es n cap : Nat} {y : Value} (h : Rel G k nl (.rsl d b off es n cap) y) :
    ∃ blk gr, y = .slice (some ⟨blk, off, none⟩) n cap ∧ d ≤ k ∧ G.acts[d]? = some gr ∧ gr.bl[b]? = some blk ∧ n ≤ cap := by
  cases h with
  | cl h => cases h
  | rsl gr hd hg hb hn => exact ⟨_, gr, rfl, hd, hg, hb, hn⟩

theorem Rel.inv_eptr {cs : List AV} {off : Nat} {y : Value} (h : Rel G k nl (.eptr cs off) y) :
    ∃ (blk o0 : Nat) (f : Nat → Value), y = .pointer (some ⟨blk, o0 + off, none⟩) ∧ (∀ c, c ∈ cs → c.isCell = true) ∧ (∀ i, i < cs.length → G.I blk (o0 + i) = some (f i)) ∧ ∀ i (hi : i < cs.length), RelC G.I cs[i] (f i) := by
  cases h with
  | cl h => cases h with | eptr f hcell hI hR => exact ⟨_, _, f, rfl, hcell, hI, hR⟩

theorem Rel.inv_agg {cs : List AV} {y : Value} (h : Rel G k nl (.agg cs) y) :
    ∃ arr : Array Value, y = .agg arr ∧ arr.size = cs.length ∧ (∀ c, c ∈ cs → c.isCell = true) ∧ ∀ i (hi : i < cs.length), Rel G k nl cs[i] (arr.getD i Go.undef) := by
  cases h with
  | cl h => cases h with | agg hl hcell hR => exact ⟨_, rfl, hl, hcell, fun i hi => .cl (hR i hi)⟩
  | agg hl hcell hR => exact ⟨_, rfl, hl, hcell, hR⟩

theorem Rel.inv_tuple {vs : List AV} {y : Value} (h : Rel G k nl (.tuple vs) y) :
    ∃ arr : Array Value, y = .tuple arr ∧ arr.size = vs.length ∧ ∀ i (hi : i < vs.length), Rel G k nl vs[i] (arr.getD i Go.undef) := by
  cases h with
  | cl h => cases h
  | tuple hl hR => exact ⟨_, rfl, hl, hR⟩

theorem Rel.inv_fn {f : FuncId} {first caps : List AV} {y : Value} (h : Rel G k nl (.fn f first caps) y) :
    ∃ a1 a2 : Array Value, y = .func (.func f) a1 a2 ∧ a1.size = first.length ∧ a2.size = caps.length ∧ (∀ i (hi : i < first.length), RelC G.I first[i] (a1.getD i Go.undef)) ∧
      ∀ i (hi : i < caps.length), Rel G k nl caps[i] (a2.getD i Go.undef) := by
  cases h with
  | cl h => cases h with | fn l1 l2 r1 r2 => exact ⟨_, _, rfl, l1, l2, r1, fun i hi => .cl (r2 i hi)⟩
  | fn l1 l2 r1 r2 => exact ⟨_, _, rfl, l1, l2, r1, r2⟩

theorem Rel.inv_yield {l : Nat} {y : Value} (h : Rel G k nl (.yield l) y) : ∃ r, y = .func (.yield r) #[] #[] ∧ l < nl ∧ G.loops[l]? = some r := by
  cases h with
  | cl h => cases h
  | yield hl h => exact ⟨_, rfl, hl, h⟩

theorem Rel.inv_iface {t : TypeId} {x : AV} {y : Value} (h : Rel G k nl (.iface t x) y) : ∃ z, y = .iface t z ∧ RelC G.I x z := by
  cases h with
  | cl h => cases h with | iface h => exact ⟨_, rfl, h⟩

/-- One cell's value is no struct's. -/
theorem RelC.one {I : IMap} {x : AV} {y : Value} (h : RelC I x y) (hc : x.isCell = true) : y.cells = #[y] := by
  cases h with
  | v h => cases y <;> first | rfl | simp [plain] at h
  | agg => cases hc
  | _ => rfl

theorem Rel.one {x : AV} {y : Value} (h : Rel G k nl x y) (hc : x.isCell = true) : y.cells = #[y] := by
  cases h with
  | cl h => exact h.one hc
  | undef => rfl
  | agg => cases hc
  | _ => rfl

/-- The value of a closed cell. -/
theorem Rel.closed1 {x : AV} {y : Value} (h : Rel G k nl x y) (hc : x.isClosed1 = true) : RelC G.I x y := by
  cases h with
  | cl h => exact h
  | undef => cases hc
  | tok => cases hc
  | ptr => cases hc
  | rsl => cases hc
  | yield => cases hc
  | agg => cases hc
  | tuple => cases hc
  | fn => cases hc

theorem Rel.closedV {x : AV} {y : Value} (h : Rel G k nl x y) (hc : x.isClosedV = true) : RelC G.I x y := by
  cases x with
  | agg cs =>
    obtain ⟨arr, rfl, hl, hcell, hR⟩ := h.inv_agg
    refine .agg hl hcell (fun i hi => (hR i hi).closed1 ?_)
    exact List.all_eq_true.1 hc _ (List.getElem_mem hi)
  | _ => exact h.closed1 hc

theorem Rel.closed {x : AV} {y : Value} (h : Rel G k nl x y) (hc : x.isClosed = true) : RelC G.I x y := by
  cases x with
  | iface t x =>
    obtain ⟨z, rfl, hz⟩ := h.inv_iface
    exact .iface hz
  | fn f first caps =>
    obtain ⟨a1, a2, rfl, l1, l2, r1, r2⟩ := h.inv_fn
    simp only [AV.isClosed, Bool.and_eq_true] at hc
    exact .fn l1 l2 r1 (fun i hi => (r2 i hi).closed1 (List.all_eq_true.1 hc.2 _ (List.getElem_mem hi)))
  | _ => exact h.closed1 hc

theorem Rel.close {x z : AV} {y : Value} (h : Rel G k nl x y) (hc : x.close = some z) : RelC G.I z y := by
  by_cases hx : ∃ d g es xs, x = .slice (.tok d g) es xs
  · obtain ⟨d, g, es, xs, rfl⟩ := hx
    simp only [AV.close] at hc
    injection hc with hc
    subst hc
    rcases h.inv_slice with ⟨h1, _⟩ | ⟨_, a, cap, rfl, _, _, h4, _⟩
    · cases h1
    · exact h4
  · have : x.close = if x.isClosed then some x else none := by
      unfold AV.close
      split
      · exact absurd ⟨_, _, _, _, rfl⟩ hx
      · rfl
    rw [this] at hc
    split at hc
    · injection hc with hc
      subst hc
      exact h.closed (by assumption)
    · cases hc

theorem close_isCell {x z : AV} (h : x.close = some z) (hc : x.isCell = true) : z.isCell = true := by
  unfold AV.close at h
  split at h
  · injection h with h; subst h; rfl
  · split at h
    · injection h with h; subst h; exact hc
    · cases h

theorem closeAll_spec {cs ds : List AV} (h : closeAll cs = some ds) : ds.length = cs.length ∧ ∀ i (hi : i < cs.length) (hj : i < ds.length), cs[i].close = some ds[i] := by
  induction cs generalizing ds with
  | nil => simp only [closeAll] at h; injection h with h; subst h; exact ⟨rfl, fun i hi => absurd hi (Nat.not_lt_zero _)⟩
  | cons x r ih =>
    simp only [closeAll] at h
    split at h
    · rename_i y s hy hs
      injection h with h
      subst h
      obtain ⟨h1, h2⟩ := ih hs
      refine ⟨by simp [h1], fun i hi hj => ?_⟩
      cases i with
      | zero => exact hy
      | succ i => exact h2 i (by simpa using hi) (by simpa using hj)
    · cases h

/-! ### Constants -/

theorem ofCell_rel {x : Value} {c : AV} {I : IMap} (h : ofCell x = some c) : RelC I c x ∧ c.isCell = true := by
  unfold ofCell at h
  split at h
  all_goals first
    | (injection h with h; subst h; exact ⟨.v rfl, rfl⟩)
    | (injection h with h; subst h; exact ⟨.nilS, rfl⟩)
    | skip
  · split at h
    · rename_i hz
      injection h with h
      subst h
      refine ⟨.fn (by simpa using hz.1) (by simpa using hz.2) (fun i hi => absurd hi (Nat.not_lt_zero _)) (fun i hi => absurd hi (Nat.not_lt_zero _)), rfl⟩
    · cases h
  · cases h

theorem mapO_spec {α β : Type} {f : α → Option β} {l : List α} {r : List β} (h : mapO f l = some r) : r.length = l.length ∧ ∀ i (hi : i < l.length) (hj : i < r.length), f l[i] = some r[i] := by
  induction l generalizing r with
  | nil => simp only [mapO] at h; injection h with h; subst h; exact ⟨rfl, fun i hi => absurd hi (Nat.not_lt_zero _)⟩
  | cons x s ih =>
    simp only [mapO] at h
    split at h
    · rename_i y t hy ht
      injection h with h
      subst h
      obtain ⟨h1, h2⟩ := ih ht
      refine ⟨by simp [h1], fun i hi hj => ?_⟩
      cases i with
      | zero => exact hy
      | succ i => exact h2 i (by simpa using hi) (by simpa using hj)
    · cases h

theorem cells_rel {I : IMap} {arr : Array Value} {cs : List AV} (h : mapO ofCell arr.toList = some cs) :
    arr.size = cs.length ∧ (∀ c, c ∈ cs → c.isCell = true) ∧ ∀ i (hi : i < cs.length), RelC I cs[i] (arr.getD i Go.undef) := by
  obtain ⟨h1, h2⟩ := mapO_spec h
  have hl : arr.size = cs.length := by simpa using h1.symm
  have hz : ∀ i (hi : i < cs.length), RelC I cs[i] (arr.getD i Go.undef) ∧ cs[i].isCell = true := fun i hi => by
    have := h2 i (by simpa using hl ▸ hi) hi
    have hr := ofCell_rel (I := I) this
    have he : arr.getD i Go.undef = arr.toList[i]'(by simpa using hl ▸ hi) := by simp [Array.getD, hl, hi]
    rw [he]
    exact hr
  refine ⟨hl, fun c hc => ?_, fun i hi => (hz i hi).1⟩
  obtain ⟨i, hi, rfl⟩ := List.getElem_of_mem hc
  exact (hz i hi).2

theorem ofValue_rel {x : Value} {c : AV} {I : IMap} (h : ofValue x = some c) : RelC I c x := by
  unfold ofValue at h
  split at h
  · rename_i cs
    cases hm : mapO ofCell cs.toList with
    | none => rw [hm] at h; cases h
    | some l =>
      rw [hm] at h
      injection h with h
      subst h
      obtain ⟨h1, h2, h3⟩ := cells_rel (I := I) hm
      exact .agg h1 h2 h3
  · exact (ofCell_rel h).1

/-- The temporaries are as the executor has them. -/
def TmpsRel (G : Ghost) (k nl : Nat) (ρ : Nat → AV) (a : Act) : Prop := ∀ t, Rel G k nl (ρ t) (a.tmps.getD t Go.undef)

theorem opd_rel {x : Operand} {ax : AOpd} {ρ : Nat → AV} {a : Act} (hc : compOpd x = some ax) (hR : TmpsRel G k nl ρ a) : Rel G k nl (evalT ρ ax) (a.eval x) := by
  cases x with
  | tmp t => simp only [compOpd] at hc; injection hc with hc; subst hc; exact hR t
  | const c =>
    simp only [compOpd] at hc
    cases hv : ofValue c with
    | none => rw [hv] at hc; cases hc
    | some z =>
      rw [hv] at hc
      injection hc with hc
      subst hc
      exact .cl (ofValue_rel hv)
  | func f =>
    simp only [compOpd] at hc
    injection hc with hc
    subst hc
    exact .cl (.fn rfl rfl (fun i hi => absurd hi (Nat.not_lt_zero _)) (fun i hi => absurd hi (Nat.not_lt_zero _)))
  | global g => cases hc

end
end Go.Ax
