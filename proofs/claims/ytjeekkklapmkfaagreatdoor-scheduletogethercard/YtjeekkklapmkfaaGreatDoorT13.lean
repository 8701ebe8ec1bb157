/- A part of the proof. -/
import Derived.Test.YtjeekkklapmkfaaGreatDoorT12
namespace Go.Ax.Sx.Sc
open Go.Ax
set_option linter.unusedSimpArgs false
set_option linter.unusedVariables false
set_option maxRecDepth 100000

section
variable {w : W}

/-- One pass of each list, no two of which conflict. -/
structure ChF (w : W) (l : List (List P)) (c : Nat → P) : Prop where
  mem : ∀ k x, l[k]? = some x → c k ∈ x
  nc : ∀ j k, j < l.length → k < l.length → j ≠ k → conf w (c j) (c k) = false

theorem wo_iff {p x : P} {l : List P} : x ∈ wo w p l ↔ x ∈ l ∧ conf w x p = false := by
  unfold wo
  rw [List.mem_filter]
  simp

theorem er_get {p : P} {l : List (List P)} {s k : Nat} : ((l.eraseIdx s).map (wo w p))[k]? = ((if k < s then l[k]? else l[k + 1]?).map (wo w p)) := by
  rw [List.getElem?_map, List.getElem?_eraseIdx]

theorem fit_of (hw : Wk w) : ∀ (n : Nat) (l : List (List P)), l.length = n → (∀ x ∈ l, ∀ p ∈ x, PIn w p) → fitN' w n l = true → ∃ c, ChF w l c
  | 0, l, hl, _, _ => ⟨fun _ => zeroP, fun k x h => by rw [List.eq_nil_of_length_eq_zero hl] at h; simp at h, fun j k h => by omega⟩
  | n + 1, l, hl, hp, h => by
    have hne : l ≠ [] := by intro e; rw [e] at hl; simp at hl
    have hs := shortI_lt hne
    simp only [fitN'] at h
    generalize shortI l = s at *
    obtain ⟨x, hx⟩ := get_some hs
    rw [List.getD, hx, Option.getD_some, List.any_eq_true] at h
    obtain ⟨p, hpx, hf⟩ := h
    have hxm := List.mem_of_getElem? hx
    have hpp := hp x hxm p hpx
    have hel : ((l.eraseIdx s).map (wo w p)).length = n := by rw [List.length_map, List.length_eraseIdx_of_lt hs]; omega
    obtain ⟨c, hc1, hc2⟩ := fit_of hw n ((l.eraseIdx s).map (wo w p)) hel (fun y hy q hq => by
      obtain ⟨z, hz, rfl⟩ := List.mem_map.1 hy
      exact hp z (List.mem_of_mem_eraseIdx hz) q (wo_iff.1 hq).1) hf
    rw [hel] at hc2
    have key : ∀ k, k < n → ∃ y, l[if k < s then k else k + 1]? = some y ∧ c k ∈ y ∧ conf w (c k) p = false ∧ PIn w (c k) := by
      intro k hk
      obtain ⟨y, hy⟩ := get_some (l := (l.eraseIdx s).map (wo w p)) (k := k) (by omega)
      have hm := hc1 k y hy
      rw [er_get] at hy
      obtain ⟨z, hz, rfl⟩ := Option.map_eq_some_iff.1 hy
      obtain ⟨hm1, hm2⟩ := wo_iff.1 hm
      have hz' : l[if k < s then k else k + 1]? = some z := by
        by_cases h : k < s
        · rw [if_pos h] at hz ⊢; exact hz
        · rw [if_neg h] at hz ⊢; exact hz
      exact ⟨z, hz', hm1, hm2, hp z (List.mem_of_getElem? hz') _ hm1⟩
    refine ⟨fun k => if k < s then c k else if k = s then p else c (k - 1), ?_, ?_⟩
    · intro k y hy
      have hkl := (List.getElem?_eq_some_iff.1 hy).1
      show (if k < s then c k else if k = s then p else c (k - 1)) ∈ y
      by_cases h1 : k < s
      · rw [if_pos h1]
        obtain ⟨z, hz, hm, _⟩ := key k (by omega)
        rw [if_pos h1, hy] at hz; injection hz with hz; rw [hz]; exact hm
      · rw [if_neg h1]
        by_cases h2 : k = s
        · rw [if_pos h2]; subst h2; rw [hx] at hy; injection hy with hy; rw [← hy]; exact hpx
        · rw [if_neg h2]
          obtain ⟨z, hz, hm, _⟩ := key (k - 1) (by omega)
          rw [if_neg (by omega), show k - 1 + 1 = k by omega, hy] at hz; injection hz with hz; rw [hz]; exact hm
    · intro j k hj hk hjk
      show conf w (if j < s then c j else if j = s then p else c (j - 1)) (if k < s then c k else if k = s then p else c (k - 1)) = false
      have hcp : ∀ i, i < n → conf w p (c i) = false := fun i hi => by
        obtain ⟨_, _, _, h3, h4⟩ := key i hi
        rw [conf_symm hw hpp h4]; exact h3
      have hcp2 : ∀ i, i < n → conf w (c i) p = false := fun i hi => (key i hi).choose_spec.2.2.1
      by_cases j1 : j < s
      · rw [if_pos j1]
        by_cases k1 : k < s
        · rw [if_pos k1]; exact hc2 j k (by omega) (by omega) hjk
        · rw [if_neg k1]
          by_cases k2 : k = s
          · rw [if_pos k2]; exact hcp2 j (by omega)
          · rw [if_neg k2]; exact hc2 j (k - 1) (by omega) (by omega) (by omega)
      · rw [if_neg j1]
        by_cases j2 : j = s
        · rw [if_pos j2]
          by_cases k1 : k < s
          · rw [if_pos k1]; exact hcp k (by omega)
          · rw [if_neg k1, if_neg (by omega)]; exact hcp (k - 1) (by omega)
        · rw [if_neg j2]
          by_cases k1 : k < s
          · rw [if_pos k1]; exact hc2 (j - 1) k (by omega) (by omega) (by omega)
          · rw [if_neg k1]
            by_cases k2 : k = s
            · rw [if_pos k2]; exact hcp2 (j - 1) (by omega)
            · rw [if_neg k2]; exact hc2 (j - 1) (k - 1) (by omega) (by omega) (by omega)

theorem of_fit (hw : Wk w) : ∀ (n : Nat) (l : List (List P)), l.length = n → (∀ x ∈ l, ∀ p ∈ x, PIn w p) → (∃ c, ChF w l c) → fitN' w n l = true
  | 0, _, _, _, _ => rfl
  | n + 1, l, hl, hp, ⟨c, hc1, hc2⟩ => by
    have hne : l ≠ [] := by intro e; rw [e] at hl; simp at hl
    have hs := shortI_lt hne
    simp only [fitN']
    generalize shortI l = s at *
    obtain ⟨x, hx⟩ := get_some hs
    rw [List.getD, hx, Option.getD_some, List.any_eq_true]
    have hel : ((l.eraseIdx s).map (wo w (c s))).length = n := by rw [List.length_map, List.length_eraseIdx_of_lt hs]; omega
    refine ⟨c s, hc1 s x hx, of_fit hw n _ hel (fun y hy q hq => by
      obtain ⟨z, hz, rfl⟩ := List.mem_map.1 hy
      exact hp z (List.mem_of_mem_eraseIdx hz) q (wo_iff.1 hq).1) ⟨fun k => c (if k < s then k else k + 1), fun k y hy => ?_, fun j k hj hk hjk => ?_⟩⟩
    · have hkl := (List.getElem?_eq_some_iff.1 hy).1
      rw [er_get] at hy
      obtain ⟨z, hz, rfl⟩ := Option.map_eq_some_iff.1 hy
      have hz' : l[if k < s then k else k + 1]? = some z := by
        by_cases h : k < s
        · rw [if_pos h] at hz ⊢; exact hz
        · rw [if_neg h] at hz ⊢; exact hz
      exact wo_iff.2 ⟨hc1 _ z hz', hc2 _ _ (List.getElem?_eq_some_iff.1 hz').1 hs (by split <;> omega)⟩
    · rw [hel] at hj hk
      exact hc2 _ _ (by split <;> omega) (by split <;> omega) (by split <;> split <;> omega)

theorem fit_iff (hw : Wk w) {l : List (List P)} (hp : ∀ x ∈ l, ∀ p ∈ x, PIn w p) : fit w l = true ↔ ∃ c, ChF w l c :=
  ⟨fit_of hw l.length l rfl hp, of_fit hw l.length l rfl hp⟩
end
end Go.Ax.Sx.Sc

namespace Go.Ax.Sx.Sc
open Go.Ax
set_option linter.unusedSimpArgs false
set_option linter.unusedVariables false
set_option maxRecDepth 100000

section
variable {w : W}

theorem woS_iff {q : P} : ∀ {plan : List P} {x : Sl P}, q ∈ (woS w plan x).l ↔ q ∈ x.l ∧ ∀ p ∈ plan, conf w q p = false
  | [], x => by simp [woS]
  | p :: r, x => by
    have h : woS w (p :: r) x = woS w r (acS 3 (wo w p x.l)) := rfl
    rw [h, woS_iff (plan := r), acS_l, wo_iff]
    simp only [List.mem_cons, forall_eq_or_imp]
    constructor
    · rintro ⟨⟨h1, h2⟩, h3⟩; exact ⟨h1, h2, h3⟩
    · rintro ⟨h1, h2, h3⟩; exact ⟨⟨h1, h2⟩, h3⟩

theorem plcs_nil {i : Int} : plcs w [] i = poss w i := by
  unfold plcs
  rw [List.filter_eq_self]
  intro x _; rfl
theorem free_get {i : Nat} (h : i < w.rs.l.length) : (freeC w).getD i default = (acS 3 (poss w (i : Int)), true) := by
  unfold freeC freeUp
  rw [List.getD, List.getElem?_map, List.getElem?_range h]
  simp only [Option.map_some, Option.getD_some, plcs_nil]

/-- The requests that a plan leaves open. -/
def opn (pl : List P) (m : Nat) : List Int := (mems m).filter fun i => (pOf pl i).isNone

theorem mems_iff {m : Nat} {i : Int} (hm : m < 2 ^ 62) : i ∈ mems m ↔ 0 ≤ i ∧ m.testBit i.toNat = true := by
  unfold mems memsUp
  simp only [List.mem_map, List.mem_filter, List.mem_range]
  constructor
  · rintro ⟨k, ⟨h1, h2⟩, rfl⟩; exact ⟨by omega, by simpa using h2⟩
  · rintro ⟨h0, h1⟩
    refine ⟨i.toNat, ⟨?_, h1⟩, by omega⟩
    apply Classical.byContradiction
    intro h
    have : m < 2 ^ i.toNat := Nat.lt_of_lt_of_le hm (Nat.pow_le_pow_right (by decide) (by omega))
    rw [Nat.testBit_lt_two_pow this] at h1
    exact absurd h1 (by decide)
theorem mems_asc {m : Nat} : (mems m).Pairwise (· < ·) := by
  unfold mems memsUp
  rw [List.pairwise_map]
  refine (List.Pairwise.filter _ List.pairwise_lt_range).imp fun h => by omega

theorem fits_iff (hw : Wk w) {pl : List P} {m : Nat} (hm : m < 2 ^ w.rs.l.length) :
    fitsB w (freeC w) pl m = true ↔ ∃ f : Int → P, (∀ i ∈ opn pl m, f i ∈ poss w i ∧ ∀ p ∈ pl, conf w (f i) p = false) ∧ (∀ i ∈ opn pl m, ∀ j ∈ opn pl m, i ≠ j → conf w (f i) (f j) = false) := by
  have hrl := hw.v.rl
  have hm62 : m < 2 ^ 62 := Nat.lt_of_lt_of_le hm (Nat.pow_le_pow_right (by decide) (by omega))
  have hin : ∀ i ∈ opn pl m, 0 ≤ i ∧ i < w.rs.l.length := by
    intro i hi
    obtain ⟨h0, h1⟩ := (mems_iff hm62).1 (List.mem_filter.1 hi).1
    refine ⟨h0, ?_⟩
    apply Classical.byContradiction
    intro h
    have : m < 2 ^ i.toNat := Nat.lt_of_lt_of_le hm (Nat.pow_le_pow_right (by decide) (by omega))
    rw [Nat.testBit_lt_two_pow this] at h1
    exact absurd h1 (by decide)
  have hasc : (opn pl m).Pairwise (· < ·) := List.Pairwise.filter _ mems_asc
  have hls : (opS w (freeC w) pl (mems m)).map (·.l) = (opn pl m).map fun i => (woS w pl ((freeC w).getD i.toNat default).1).l := by
    unfold opS opn
    rw [List.map_map]; rfl
  unfold fitsB
  rw [hls]
  have hget : ∀ i ∈ opn pl m, ∀ q, q ∈ (woS w pl ((freeC w).getD i.toNat default).1).l ↔ q ∈ poss w i ∧ ∀ p ∈ pl, conf w q p = false := by
    intro i hi q
    obtain ⟨h0, h1⟩ := hin i hi
    rw [free_get (by omega), woS_iff, acS_l, show ((i.toNat : Nat) : Int) = i by omega]
  generalize opn pl m = L at *
  have hP : ∀ x ∈ L.map (fun i => (woS w pl ((freeC w).getD i.toNat default).1).l), ∀ p ∈ x, PIn w p := by
    intro x hx p hp
    obtain ⟨i, hi, rfl⟩ := List.mem_map.1 hx
    obtain ⟨h0, h1⟩ := hin i hi
    exact (poss_in hw h0 h1 ((hget i hi p).1 hp).1).1
  rw [fit_iff hw hP]
  constructor
  · rintro ⟨c, hc1, hc2⟩
    refine ⟨fun i => c (L.idxOf i), fun i hi => ?_, fun i hi j hj hij => ?_⟩
    · have hk : L[L.idxOf i]? = some i := by
        rw [List.getElem?_eq_getElem (List.idxOf_lt_length_iff.2 hi), List.getElem_idxOf]
      have := hc1 (L.idxOf i) _ (by rw [List.getElem?_map, hk]; rfl)
      exact (hget i hi _).1 this
    · refine hc2 _ _ ?_ ?_ ?_
      · rw [List.length_map]; exact List.idxOf_lt_length_iff.2 hi
      · rw [List.length_map]; exact List.idxOf_lt_length_iff.2 hj
      · intro e
        apply hij
        have h1 : L[L.idxOf i]? = some i := by rw [List.getElem?_eq_getElem (List.idxOf_lt_length_iff.2 hi), List.getElem_idxOf]
        have h2 : L[L.idxOf j]? = some j := by rw [List.getElem?_eq_getElem (List.idxOf_lt_length_iff.2 hj), List.getElem_idxOf]
        rw [e, h2] at h1; injection h1 with h1; exact Eq.symm h1
  · rintro ⟨f, hf1, hf2⟩
    refine ⟨fun k => f (L.getD k 0), fun k x hx => ?_, fun j k hj hk hjk => ?_⟩
    · rw [List.getElem?_map] at hx
      obtain ⟨i, hi, rfl⟩ := Option.map_eq_some_iff.1 hx
      have hm2 := List.mem_of_getElem? hi
      show f (L.getD k 0) ∈ _
      have e0 : L.getD k 0 = i := by rw [List.getD, hi]; rfl
      rw [e0]
      exact (hget i hm2 _).2 (hf1 i hm2)
    · rw [List.length_map] at hj hk
      obtain ⟨a, ha⟩ := get_some hj
      obtain ⟨b, hb⟩ := get_some hk
      show conf w (f (L.getD j 0)) (f (L.getD k 0)) = false
      rw [List.getD, List.getD, ha, hb, Option.getD_some, Option.getD_some]
      refine hf2 a (List.mem_of_getElem? ha) b (List.mem_of_getElem? hb) ?_
      intro e
      subst e
      have hpw := List.pairwise_iff_getElem.1 hasc
      obtain ⟨_, ea⟩ := List.getElem?_eq_some_iff.1 ha
      obtain ⟨_, eb⟩ := List.getElem?_eq_some_iff.1 hb
      rcases Nat.lt_or_gt_of_ne hjk with h | h
      · have := hpw j k hj hk h; omega
      · have := hpw k j hk hj h; omega
end
end Go.Ax.Sx.Sc

namespace Go.Ax.Sx.Sc
open Go.Ax
set_option linter.unusedSimpArgs false
set_option linter.unusedVariables false
set_option maxRecDepth 100000

section
variable {w : W}

/-- A plan, as the document has it. -/
structure VP (w : W) (R : List P) : Prop where
  mem : ∀ p ∈ R, 0 ≤ p.req ∧ p.req < w.rs.l.length ∧ p ∈ poss w p.req
  asc : R.Pairwise fun a b => a.req < b.req
  nc : R.Pairwise fun a b => conf w a b = false

theorem VP.nil : VP w [] := ⟨fun _ h => absurd h (by simp), List.Pairwise.nil, List.Pairwise.nil⟩
theorem VP.pin (hw : Wk w) {R : List P} (h : VP w R) : ∀ p ∈ R, PIn w p := fun p hp => by
  obtain ⟨h0, h1, h2⟩ := h.mem p hp
  exact (poss_in hw h0 h1 h2).1
theorem VP.pre {a b : List P} (h : VP w (a ++ b)) : VP w a :=
  ⟨fun p hp => h.mem p (List.mem_append_left _ hp), (List.pairwise_append.1 h.asc).1, (List.pairwise_append.1 h.nc).1⟩

theorem own_bit : ∀ {R : List P} {o i : Nat}, (R.foldl (fun o p => o ||| 2 ^ p.req.toNat) o).testBit i = (o.testBit i || R.any fun p => decide (p.req.toNat = i))
  | [], o, i => by simp
  | p :: r, o, i => by
    rw [List.foldl_cons, own_bit (R := r), Nat.testBit_or, Nat.testBit_two_pow, List.any_cons, Bool.or_assoc]
theorem ownM_bit {R : List P} {i : Nat} : (ownM R).testBit i = R.any fun p => decide (p.req.toNat = i) := by
  unfold ownM
  rw [own_bit]; simp
theorem ownM_lt2 {R : List P} {n : Nat} (h : ∀ p ∈ R, p.req.toNat < n) : ownM R < 2 ^ n := by
  apply Nat.lt_pow_two_of_testBit
  intro i hi
  rw [ownM_bit, List.any_eq_false]
  intro p hp
  have := h p hp
  simp; omega

theorem sumV_map {w : W} : ∀ {R : List P}, sumV w (R.map (·.req)) = valP w R
  | [] => rfl
  | p :: r => by simp only [List.map_cons, sumV, valP]; rw [sumV_map]

theorem asc_eq : ∀ {a b : List Int}, a.Pairwise (· < ·) → b.Pairwise (· < ·) → (∀ x, x ∈ a ↔ x ∈ b) → a = b
  | [], [], _, _, _ => rfl
  | [], y :: b, _, _, h => absurd ((h y).2 (by simp)) (by simp)
  | x :: a, [], _, _, h => absurd ((h x).1 (by simp)) (by simp)
  | x :: a, y :: b, ha, hb, h => by
    have h1 := List.pairwise_cons.1 ha
    have h2 := List.pairwise_cons.1 hb
    have hxy : x = y := by
      rcases List.mem_cons.1 ((h x).1 (by simp)) with e | e
      · exact e
      · rcases List.mem_cons.1 ((h y).2 (by simp)) with e2 | e2
        · exact Eq.symm e2
        · have := h1.1 y e2; have := h2.1 x e; omega
    subst hxy
    congr 1
    refine asc_eq h1.2 h2.2 fun z => ?_
    constructor
    · intro hz
      rcases List.mem_cons.1 ((h z).1 (List.mem_cons_of_mem _ hz)) with e | e
      · subst e; have := h1.1 z hz; omega
      · exact e
    · intro hz
      rcases List.mem_cons.1 ((h z).2 (List.mem_cons_of_mem _ hz)) with e | e
      · subst e; have := h2.1 z hz; omega
      · exact e

theorem VP.own_lt {R : List P} (h : VP w R) : ownM R < 2 ^ w.rs.l.length := ownM_lt2 fun p hp => by have := (h.mem p hp).1; have := (h.mem p hp).2.1; omega
theorem VP.reqs (hw : Wk w) {R : List P} (h : VP w R) : mems (ownM R) = R.map (·.req) := by
  have hrl := hw.v.rl
  have hlt : ownM R < 2 ^ 62 := Nat.lt_of_lt_of_le h.own_lt (Nat.pow_le_pow_right (by decide) (by omega))
  refine asc_eq mems_asc (by rw [List.pairwise_map]; exact h.asc) fun x => ?_
  rw [mems_iff hlt, ownM_bit, List.any_eq_true]
  simp only [List.mem_map, decide_eq_true_eq]
  constructor
  · rintro ⟨h0, p, hp, he⟩
    have := (h.mem p hp).1
    exact ⟨p, hp, by omega⟩
  · rintro ⟨p, hp, rfl⟩
    exact ⟨(h.mem p hp).1, p, hp, rfl⟩
theorem VP.val (hw : Wk w) {R : List P} (h : VP w R) : worthB w (ownM R) = valP w R := by
  unfold worthB
  rw [h.reqs hw, sumV_map]
end
end Go.Ax.Sx.Sc

namespace Go.Ax.Sx.Sc
open Go.Ax
set_option linter.unusedSimpArgs false
set_option linter.unusedVariables false
set_option maxRecDepth 100000

section
variable {w : W}

theorem VP.sep (hw : Wk w) {R : List P} (h : VP w R) {p q : P} (hp : p ∈ R) (hq : q ∈ R) (hne : p.req ≠ q.req) : conf w p q = false := by
  obtain ⟨i, hi⟩ := List.getElem?_of_mem hp
  obtain ⟨j, hj⟩ := List.getElem?_of_mem hq
  obtain ⟨hil, hie⟩ := List.getElem?_eq_some_iff.1 hi
  obtain ⟨hjl, hje⟩ := List.getElem?_eq_some_iff.1 hj
  have hpw := List.pairwise_iff_getElem.1 h.nc
  rcases Nat.lt_trichotomy i j with hij | hij | hij
  · have := hpw i j hil hjl hij
    rwa [hie, hje] at this
  · subst hij
    rw [hi] at hj; injection hj with hj
    exact absurd (by rw [hj]) hne
  · have := hpw j i hjl hil hij
    rw [hie, hje] at this
    rw [conf_symm hw (h.pin hw p hp) (h.pin hw q hq)]; exact this

theorem pOf_some {l : List P} {i : Int} {p : P} (h : pOf l i = some p) : p ∈ l ∧ p.req = i := by
  unfold pOf at h
  exact ⟨List.mem_of_find?_eq_some h, by simpa using List.find?_some h⟩
theorem pOf_none {l : List P} {i : Int} (h : (pOf l i).isNone = true) : ∀ p ∈ l, p.req ≠ i := by
  intro p hp he
  unfold pOf at h
  rw [Option.isNone_iff_eq_none, List.find?_eq_none] at h
  exact h p hp (by simpa using he)
theorem pOf_ex {l : List P} {i : Int} (h : ∃ p ∈ l, p.req = i) : ∃ p, pOf l i = some p := by
  obtain ⟨p, hp, he⟩ := h
  unfold pOf
  have : (l.find? fun x => decide (x.req = i)).isSome = true := List.find?_isSome.2 ⟨p, hp, by simpa using he⟩
  exact Option.isSome_iff_exists.1 this

/-- A plan shows that its set fits. -/
theorem fits_of_plan (hw : Wk w) {pl rest : List P} (h : VP w (pl ++ rest)) : fitsB w (freeC w) pl (ownM (pl ++ rest)) = true := by
  have hrl := hw.v.rl
  rw [fits_iff hw h.own_lt]
  have hop : ∀ i ∈ opn pl (ownM (pl ++ rest)), ∃ p, pOf (pl ++ rest) i = some p ∧ p ∈ pl ++ rest ∧ p.req = i ∧ ∀ q ∈ pl, q.req ≠ i := by
    intro i hi
    obtain ⟨h1, h2⟩ := List.mem_filter.1 hi
    rw [h.reqs hw, List.mem_map] at h1
    obtain ⟨p, hp⟩ := pOf_ex h1
    exact ⟨p, hp, (pOf_some hp).1, (pOf_some hp).2, pOf_none h2⟩
  refine ⟨fun i => (pOf (pl ++ rest) i).getD zeroP, fun i hi => ?_, fun i hi j hj hij => ?_⟩
  · obtain ⟨p, hp, hm, hr, hno⟩ := hop i hi
    show (pOf (pl ++ rest) i).getD zeroP ∈ _ ∧ ∀ q ∈ pl, conf w ((pOf (pl ++ rest) i).getD zeroP) q = false
    rw [hp, Option.getD_some]
    refine ⟨by rw [← hr]; exact (h.mem p hm).2.2, fun q hq => ?_⟩
    exact h.sep hw hm (List.mem_append_left _ hq) (by rw [hr]; exact fun e => hno q hq (Eq.symm e))
  · obtain ⟨p, hp, hm, hr, _⟩ := hop i hi
    obtain ⟨q, hq, hm2, hr2, _⟩ := hop j hj
    show conf w ((pOf (pl ++ rest) i).getD zeroP) ((pOf (pl ++ rest) j).getD zeroP) = false
    rw [hp, hq, Option.getD_some, Option.getD_some]
    exact h.sep hw hm hm2 (by rw [hr, hr2]; exact hij)

/-- A set that fits gives a plan. -/
theorem plan_of_fits (hw : Wk w) {pl : List P} {m k : Nat} (h : VP w pl) (hk : ∀ p ∈ pl, p.req < k) (hm : m < 2 ^ w.rs.l.length) (hlow : ∀ i, i < k → m.testBit i = (ownM pl).testBit i) (hf : fitsB w (freeC w) pl m = true) :
    ∃ rest, VP w (pl ++ rest) ∧ ownM (pl ++ rest) = m ∧ ∀ p ∈ rest, (k : Int) ≤ p.req := by
  have hrl := hw.v.rl
  have hm62 : m < 2 ^ 62 := Nat.lt_of_lt_of_le hm (Nat.pow_le_pow_right (by decide) (by omega))
  obtain ⟨f, hf1, hf2⟩ := (fits_iff hw hm).1 hf
  have hop : ∀ i ∈ opn pl m, 0 ≤ i ∧ i < w.rs.l.length ∧ m.testBit i.toNat = true ∧ (k : Int) ≤ i ∧ ∀ q ∈ pl, q.req ≠ i := by
    intro i hi
    obtain ⟨h1, h2⟩ := List.mem_filter.1 hi
    obtain ⟨h3, h4⟩ := (mems_iff hm62).1 h1
    have hno := pOf_none h2
    refine ⟨h3, (mems_lt hm h1).2, h4, ?_, hno⟩
    apply Classical.byContradiction
    intro hlt
    rw [hlow i.toNat (by omega), ownM_bit, List.any_eq_true] at h4
    obtain ⟨p, hp, he⟩ := h4
    have := (h.mem p hp).1
    exact hno p hp (by simp at he; omega)
  have hasc : (opn pl m).Pairwise (· < ·) := List.Pairwise.filter _ mems_asc
  have hreq : ∀ i ∈ opn pl m, (f i).req = i := fun i hi => by
    obtain ⟨h0, h1, _⟩ := hop i hi
    exact (poss_in hw h0 h1 (hf1 i hi).1).2.1
  have hpin : ∀ i ∈ opn pl m, PIn w (f i) := fun i hi => by
    obtain ⟨h0, h1, _⟩ := hop i hi
    exact (poss_in hw h0 h1 (hf1 i hi).1).1
  have hR : VP w (pl ++ (opn pl m).map f) := by
    refine ⟨fun p hp => ?_, ?_, ?_⟩
    · rcases List.mem_append.1 hp with hp | hp
      · exact h.mem p hp
      · obtain ⟨i, hi, rfl⟩ := List.mem_map.1 hp
        obtain ⟨h0, h1, _⟩ := hop i hi
        rw [hreq i hi]
        exact ⟨h0, h1, (hf1 i hi).1⟩
    · rw [List.pairwise_append]
      refine ⟨h.asc, ?_, fun a ha b hb => ?_⟩
      · rw [List.pairwise_map]
        refine hasc.imp_of_mem fun {a b} ha hb hab => ?_
        rw [hreq a ha, hreq b hb]; exact hab
      · obtain ⟨i, hi, rfl⟩ := List.mem_map.1 hb
        have := hk a ha
        have := (hop i hi).2.2.2.1
        rw [hreq i hi]; omega
    · rw [List.pairwise_append]
      refine ⟨h.nc, ?_, fun a ha b hb => ?_⟩
      · rw [List.pairwise_map]
        refine hasc.imp_of_mem fun {a b} ha hb hab => ?_
        exact hf2 a ha b hb (by omega)
      · obtain ⟨i, hi, rfl⟩ := List.mem_map.1 hb
        rw [conf_symm hw (h.pin hw a ha) (hpin i hi)]
        exact (hf1 i hi).2 a ha
  refine ⟨(opn pl m).map f, hR, ?_, fun p hp => ?_⟩
  · apply Nat.eq_of_testBit_eq
    intro i
    rw [ownM_bit, List.any_append, Bool.eq_iff_iff, Bool.or_eq_true, List.any_eq_true, List.any_eq_true]
    constructor
    · rintro (⟨p, hp, he⟩ | ⟨p, hp, he⟩)
      · have h0 := (h.mem p hp).1
        have h1 := hk p hp
        have he' : p.req.toNat = i := by simpa using he
        rw [hlow i (by omega), ownM_bit, List.any_eq_true]
        exact ⟨p, hp, he⟩
      · obtain ⟨j, hj, rfl⟩ := List.mem_map.1 hp
        have he' : (f j).req.toNat = i := by simpa using he
        rw [hreq j hj] at he'
        rw [← he']; exact (hop j hj).2.2.1
    · intro hb
      by_cases hex : ∃ p ∈ pl, p.req.toNat = i
      · obtain ⟨p, hp, he⟩ := hex
        exact .inl ⟨p, hp, by simpa using he⟩
      · right
        have hi : (i : Int) ∈ opn pl m := by
          refine List.mem_filter.2 ⟨(mems_iff hm62).2 ⟨by omega, by simpa using hb⟩, ?_⟩
          rw [Option.isNone_iff_eq_none]
          unfold pOf
          rw [List.find?_eq_none]
          intro p hp he
          have : p.req = (i : Int) := by simpa using he
          exact hex ⟨p, hp, by omega⟩
        refine ⟨f i, List.mem_map.2 ⟨i, hi, rfl⟩, ?_⟩
        rw [hreq _ hi]; simp
  · obtain ⟨i, hi, rfl⟩ := List.mem_map.1 hp
    rw [hreq i hi]; exact (hop i hi).2.2.2.1
end
end Go.Ax.Sx.Sc

namespace Go.Ax.Sx.Sc
open Go.Ax
set_option linter.unusedSimpArgs false
set_option linter.unusedVariables false
set_option maxRecDepth 100000

section
variable {w : W}

end
end Go.Ax.Sx.Sc

namespace Go.Ax.Sx.Sc
open Go.Ax
set_option linter.unusedSimpArgs false
set_option linter.unusedVariables false
set_option maxRecDepth 100000

section
variable {w : W}

theorem confs_none {p : P} {l : List P} : confs w p l = false ↔ ∀ q ∈ l, conf w q p = false := by
  unfold confs
  rw [List.any_eq_false]
  constructor
  · intro h q hq; simpa using h q hq
  · intro h q hq; simpa using h q hq

end
end Go.Ax.Sx.Sc

namespace Go.Ax.Sx.Sc
open Go.Ax
set_option linter.unusedSimpArgs false
set_option linter.unusedVariables false
set_option maxRecDepth 100000

section
variable {w : W}

/-- All plans that use only some requests, from a request on, behind the passes that are there. -/
def pls (w : W) (rq : List Int) : Nat → Nat → List P → List (List P)
  | _, 0, l => [l]
  | i, k + 1, l => pls w rq (i + 1) k l ++ if (rq.any fun x => decide (x = (i : Int))) = true then (plcs w l i).flatMap fun p => pls w rq (i + 1) k (l ++ [p]) else []

theorem VP.snoc (hw : Wk w) {l : List P} (h : VP w l) {i : Nat} (hi : ∀ p ∈ l, p.req < i) (hin : i < w.rs.l.length) {p : P} (hp : p ∈ plcs w l i) : VP w (l ++ [p]) ∧ p.req = i := by
  obtain ⟨hpp, hc⟩ := List.mem_filter.1 hp
  have hc : confs w p l = false := by simpa using hc
  obtain ⟨hpin, hr, _⟩ := poss_in hw (show (0 : Int) ≤ (i : Int) by omega) (by omega) hpp
  refine ⟨⟨fun q hq => ?_, ?_, ?_⟩, hr⟩
  · rw [List.mem_append, List.mem_singleton] at hq
    rcases hq with hq | rfl
    · exact h.mem q hq
    · rw [hr]; exact ⟨by omega, by omega, hpp⟩
  · rw [List.pairwise_append]
    refine ⟨h.asc, List.pairwise_singleton _ _, fun a ha b hb => ?_⟩
    rw [List.mem_singleton] at hb; subst hb
    rw [hr]; exact hi a ha
  · rw [List.pairwise_append]
    refine ⟨h.nc, List.pairwise_singleton _ _, fun a ha b hb => ?_⟩
    rw [List.mem_singleton] at hb; subst hb
    exact confs_none.1 hc a ha

theorem pls_iff (hw : Wk w) {rq : List Int} : ∀ {k i : Nat} {l X : List P}, i + k = w.rs.l.length → VP w l → (∀ p ∈ l, p.req < i) →
    (X ∈ pls w rq i k l ↔ VP w X ∧ ∃ t, X = l ++ t ∧ ∀ p ∈ t, (i : Int) ≤ p.req ∧ p.req ∈ rq)
  | 0, i, l, X, hk, hl, hi => by
    simp only [pls, List.mem_singleton]
    constructor
    · rintro rfl; exact ⟨hl, [], by simp, fun p hp => absurd hp (by simp)⟩
    · rintro ⟨hX, t, rfl, ht⟩
      cases t with
      | nil => simp
      | cons p t =>
        have h1 := (hX.mem p (by simp)).2.1
        have h2 := (ht p (by simp)).1
        omega
  | k + 1, i, l, X, hk, hl, hi => by
    simp only [pls, List.mem_append]
    rw [pls_iff hw (k := k) (i := i + 1) (by omega) hl fun p hp => by have := hi p hp; omega]
    constructor
    · rintro (⟨hX, t, rfl, ht⟩ | h)
      · exact ⟨hX, t, rfl, fun p hp => ⟨by have := (ht p hp).1; omega, (ht p hp).2⟩⟩
      · by_cases hr : (rq.any fun x => decide (x = (i : Int))) = true
        · rw [if_pos hr, List.mem_flatMap] at h
          obtain ⟨p, hp, hX⟩ := h
          obtain ⟨hv, hpr⟩ := hl.snoc hw hi (by omega) hp
          rw [pls_iff hw (k := k) (i := i + 1) (by omega) hv fun q hq => by
            rw [List.mem_append, List.mem_singleton] at hq
            rcases hq with hq | rfl
            · have := hi q hq; omega
            · omega] at hX
          obtain ⟨hX, t, rfl, ht⟩ := hX
          refine ⟨hX, p :: t, by simp, fun q hq => ?_⟩
          rcases List.mem_cons.1 hq with rfl | hq
          · refine ⟨by omega, ?_⟩
            obtain ⟨x, hx, he⟩ := List.any_eq_true.1 hr
            rw [hpr, ← of_decide_eq_true he]; exact hx
          · exact ⟨by have := (ht q hq).1; omega, (ht q hq).2⟩
        · rw [if_neg hr] at h; exact absurd h (by simp)
    · rintro ⟨hX, t, rfl, ht⟩
      by_cases hex : ∃ p t', t = p :: t' ∧ p.req = i
      · obtain ⟨p, t', rfl, hp⟩ := hex
        right
        have hr : (rq.any fun x => decide (x = (i : Int))) = true := List.any_eq_true.2 ⟨p.req, (ht p (by simp)).2, by simp [hp]⟩
        rw [if_pos hr, List.mem_flatMap]
        have hpm := (hX.mem p (by simp)).2.2
        rw [hp] at hpm
        have hpc : p ∈ plcs w l i := List.mem_filter.2 ⟨hpm, by
          have : confs w p l = false := confs_none.2 fun a ha => by
            have := hX.nc
            rw [List.pairwise_append] at this
            exact this.2.2 a ha p (by simp)
          rw [this]; rfl⟩
        obtain ⟨hv, hpr⟩ := hl.snoc hw hi (by omega) hpc
        refine ⟨p, hpc, ?_⟩
        rw [pls_iff hw (k := k) (i := i + 1) (by omega) hv fun q hq => by
            rw [List.mem_append, List.mem_singleton] at hq
            rcases hq with hq | rfl
            · have := hi q hq; omega
            · omega]
        refine ⟨hX, t', by simp, fun q hq => ⟨?_, (ht q (List.mem_cons_of_mem _ hq)).2⟩⟩
        have := hX.asc
        rw [List.pairwise_append, List.pairwise_cons] at this
        have := this.2.1.1 q hq
        omega
      · left
        refine ⟨hX, t, rfl, fun p hp => ⟨?_, (ht p hp).2⟩⟩
        cases t with
        | nil => exact absurd hp (by simp)
        | cons q t' =>
          have hq := (ht q (by simp)).1
          have hqn : q.req ≠ i := fun e => hex ⟨q, t', rfl, e⟩
          rcases List.mem_cons.1 hp with rfl | hp
          · omega
          · have := hX.asc
            rw [List.pairwise_append, List.pairwise_cons] at this
            have := this.2.1.1 p hp
            omega

end
end Go.Ax.Sx.Sc

namespace Go.Ax.Sx.Sc
open Go.Ax
set_option linter.unusedSimpArgs false
set_option linter.unusedVariables false
set_option maxRecDepth 100000

section
variable {s : Sig} {w : W}

theorem r_SmallErr (hs : Ok s) (hw : w.Ok) (hf : w.Few) : callL AP (.fn 10) [w.v] s = some (I (smallE w), s) := by
  have hwe : ∀ r, callL AP (.fn 31) [w.v] (s.push r) = some (I (weekE w).2.2, s.push r) := fun r => r_WeekErr (hs.push r) hw hf
  simp only [W.v, rowW, Sl.v] at hwe
  unfold smallE
  by_cases h0 : (weekE w).2.2 = 0
  · rw [if_pos h0]
    have hwk : Wk w := ⟨hw, hf, weekE_ok h0⟩
    have hrl := hwk.v.rl
    have h6 : decide ((6 : Int) < (w.rs.l.length : Int)) = !decide (w.rs.l.length ≤ 6) := dec_not (by omega)
    have key : ∀ (k : Nat) ρ m, k ≤ w.rs.l.length → (ρ 1 = .ptr s.acts.length 0 0 ∧ ρ 4 = I k ∧ ∃ bx, m = s.push ⟨rowW w :: bx, []⟩) →
        go AP f_r_SmallErr (.c (.loop b_r_SmallErr_l0) :: k_r_SmallErr_0) ⟨ρ, m⟩ = some (I (cond ((w.rs.l.drop k).any fun r => decide (8 < r.hi - r.lo + 2 - r.len)) 8 0), s) := by
      refine loop_up _ _ _ ?_ ?_
      · rintro k ρ m hk ⟨g1, g4, bx, rfl⟩ ih
        obtain ⟨q, hq⟩ := get_some hk
        have hix := Sl.ix (f := rowR) hw.rs hq
        have hqv := hwk.v.r q (List.mem_of_getElem? hq)
        have a1 := hqv.lo0
        have a2 := hqv.hin
        have a3 := hqv.lohi
        have a4 := hqv.len1
        have a5 := hqv.lenhi
        have a6 := hwk.v.n2
        have w1 : IntKind.i64.wrap (IntKind.i64.wrap (IntKind.i64.wrap (IntKind.i64.wrap (q.hi - q.lo) + 1) - q.len) + 1) = q.hi - q.lo + 2 - q.len := by
          rw [wrap_id (x := q.hi - q.lo) (by omega) (by omega), wrap_id (x := q.hi - q.lo + 1) (by omega) (by omega), wrap_id (x := q.hi - q.lo + 1 - q.len) (by omega) (by omega), wrap_id (by omega) (by omega)]; omega
        simp only [rowR, Sl.v] at hix
        rw [drop_get hq, List.any_cons]
        cases hd : decide (8 < q.hi - q.lo + 2 - q.len) with
        | true => simp (maxSteps := 1000000) only [go_sem, b_r_SmallErr_l0, g1, g4, hs, lt_dec hk, hix, w1, hd, Bool.true_or, Nat.reduceEqDiff, Nat.reduceAdd, ↓reduceIte]
        | false =>
          simp (maxSteps := 1000000) only [go_sem, b_r_SmallErr_l0, g1, g4, hs, lt_dec hk, hix, w1, hd, wrap_succ hk (show (w.rs.l.length : Int) < _ by omega), Nat.reduceEqDiff, Nat.reduceAdd, ↓reduceIte]
          rw [Bool.false_or]
          refine ih _ _ ?_
          exact ⟨g1, rfl, _, rfl⟩
      · rintro ρ m ⟨g1, g4, bx, rfl⟩
        simp (maxSteps := 1000000) only [go_sem, b_r_SmallErr_l0, b_r_SmallErr_r0, g1, g4, ge_dec, Nat.reduceEqDiff, Nat.reduceAdd, ↓reduceIte]
        rw [List.drop_length]; rfl
    rw [callL_go (show AP 10 = some c_r_SmallErr from rfl) rfl]
    unfold smallB
    cases hd : decide (w.rs.l.length ≤ 6) with
    | false => simp (maxSteps := 1000000) only [go_sem, b_r_SmallErr, hwe, h0, h6, hd, ne_eq, not_true, Bool.not_false, Bool.false_and, Nat.reduceEqDiff, Nat.reduceAdd, ↓reduceIte]
    | true =>
      simp (maxSteps := 1000000) only [go_sem, b_r_SmallErr, hwe, h0, h6, hd, ne_eq, not_true, Bool.not_true, Nat.reduceEqDiff, Nat.reduceAdd, ↓reduceIte]
      refine Eq.trans (key 0 _ _ (Nat.zero_le _) ?_) ?_
      · exact ⟨rfl, rfl, [], rfl⟩
      · rw [List.drop_zero]
        cases (w.rs.l.any fun r => decide (8 < r.hi - r.lo + 2 - r.len)) <;> rfl
  · rw [if_neg h0]
    rw [callL_go (show AP 10 = some c_r_SmallErr from rfl) rfl]
    simp (maxSteps := 1000000) only [go_sem, b_r_SmallErr, hwe, h0, ne_eq, not_false_iff, Nat.reduceEqDiff, Nat.reduceAdd, ↓reduceIte]

theorem r_All (hs : Ok s) (hrl : w.rs.l.length ≤ 14) : callL AP (.fn 33) [w.v] s = some (accV 1 (((List.range w.rs.l.length).map fun i : Nat => (i : Int)).map rowI), s) := by
  have key : ∀ (k : Nat) ρ m, k ≤ w.rs.l.length → (ρ 1 = .ptr s.acts.length 0 0 ∧ ρ 4 = I k ∧ ∃ y og tk, Acc s.acts.length 1 (((List.range k).map fun i : Nat => (i : Int)).map rowI) y og tk ∧ ρ 3 = y ∧ m = s.push ⟨[rowW w], tk⟩) →
      go AP f_r_All (.c (.loop b_r_All_l0) :: k_r_All_0) ⟨ρ, m⟩ = some (accV 1 (((List.range w.rs.l.length).map fun i : Nat => (i : Int)).map rowI), s) := by
    refine loop_up _ _ _ ?_ ?_
    · rintro k ρ m hk ⟨g1, g4, y, og, tk, hA, g3, rfl⟩ ih
      obtain ⟨y2, og2, tk2, ha1, ha2, _, _⟩ := hA.append hs .full (ys := [rowI k]) (by simp) (by simp; omega)
      obtain ⟨oa, ea, ra, rfl⟩ := Acc.sl hA
      obtain ⟨ob, eb, rb, rfl⟩ := Acc.sl ha2
      simp only [rowI] at ha1
      simp (maxSteps := 1000000) only [go_sem, b_r_All_l0, g1, g3, g4, lt_dec hk, ha1, wrap_succ hk (show (w.rs.l.length : Int) < _ by omega), Nat.reduceEqDiff, Nat.reduceAdd, ↓reduceIte]
      refine ih _ _ ?_
      refine ⟨g1, rfl, _, og2, tk2, ?_, rfl, rfl⟩
      rw [List.range_succ, List.map_append, List.map_append]; exact ha2
    · rintro ρ m ⟨g1, g4, y, og, tk, hA, g3, rfl⟩
      have hlv := fun q : Sig => hA.leave q
      obtain ⟨oa, ea, ra, rfl⟩ := Acc.sl hA
      simp (maxSteps := 1000000) only [go_sem, b_r_All_l0, b_r_All_r0, g1, g3, g4, ge_dec, hlv, Nat.reduceEqDiff, Nat.reduceAdd, ↓reduceIte]
  rw [callL_go (show AP 33 = some c_r_All from rfl) rfl]
  simp (maxSteps := 1000000) only [go_sem, b_r_All, Nat.reduceAdd]
  refine key 0 _ _ (Nat.zero_le _) ?_
  exact ⟨rfl, rfl, _, none, [], Acc.start, rfl, rfl⟩
end
end Go.Ax.Sx.Sc

namespace Go.Ax.Sx.Sc
open Go.Ax
set_option linter.unusedSimpArgs false
set_option linter.unusedVariables false
set_option maxRecDepth 100000

section
variable {s : Sig} {w : W}

end
end Go.Ax.Sx.Sc

namespace Go.Ax.Sx.Sc
open Go.Ax
set_option linter.unusedSimpArgs false
set_option linter.unusedVariables false
set_option maxRecDepth 100000

section
variable {s : Sig} {w : W}

/-- how many choices a search has, up to some number -/
def workF (w : W) (most : Int) : Nat → Nat → Int → Int
  | _, 0, n => n
  | i, k + 1, n => if n ≤ most then workF w most (i + 1) k (n * (1 + (poss w (i : Int)).length)) else n

theorem r_Work (hs : Ok s) (hw : Wk w) : callL AP (.fn 21) [w.v, I 2000] s = some (I (workF w 2000 0 w.rs.l.length 1), s) := by
  have hrl := hw.v.rl
  have key : ∀ (k : Nat) (i : Nat) (n : Int) ρ m, i + k = w.rs.l.length → (ρ 1 = I 2000 ∧ ρ 2 = .ptr s.acts.length 0 0 ∧ ρ 5 = I n ∧ ρ 6 = I i ∧ 1 ≤ n ∧ m = s.push ⟨[rowW w], []⟩) →
      go AP f_r_Work (.c (.loop b_r_Work_l0) :: k_r_Work_0) ⟨ρ, m⟩ = some (I (workF w 2000 i k n), s) := by
    intro k
    induction k with
    | zero =>
      rintro i n ρ m hk ⟨g1, g2, g5, g6, hn, rfl⟩
      have hi : i = w.rs.l.length := by omega
      subst hi
      rw [go_loop]
      simp (maxSteps := 1000000) only [go_sem, b_r_Work_l0, b_r_Work_r0, g2, g5, g6, ge_dec, Nat.reduceEqDiff, Nat.reduceAdd, ↓reduceIte]
      rfl
    | succ k ih =>
      rintro i n ρ m hk ⟨g1, g2, g5, g6, hn, rfl⟩
      have hcnt := poss_count hw (i := (i : Int)) (by omega) (by omega)
      have hpo : ∀ r, callL AP (.fn 42) [w.v, I i] (s.push r) = some (accV 3 (((poss w i).map (reS (w.rq i).need.toNat)).map rowP), s.push r) := fun r => r_Possible (hs.push r) hw (by omega) (by omega)
      have hln : lenOp false (accV 3 (((poss w i).map (reS (w.rq i).need.toNat)).map rowP)) = some (I (poss w i).length) := by rw [len_acc, List.length_map, List.length_map]
      simp only [W.v, rowW, Sl.v] at hpo
      rw [go_loop]
      simp only [workF]
      by_cases hle : n ≤ 2000
      · rw [if_pos hle]
        have hb : n * (1 + ((poss w i).length : Int)) ≤ 2000 * 13001 := by
          refine Int.le_trans (Int.mul_le_mul_of_nonneg_right hle (by omega)) ?_
          omega
        have hb0 : 1 ≤ n * (1 + ((poss w i).length : Int)) := by
          have := Int.mul_pos (show (0 : Int) < n by omega) (show (0 : Int) < 1 + ((poss w i).length : Int) by omega)
          omega
        have w1 : IntKind.i64.wrap (1 + ((poss w i).length : Int)) = 1 + ((poss w i).length : Int) := wrap_id (by omega) (by omega)
        have w2 : IntKind.i64.wrap (n * (1 + ((poss w i).length : Int))) = n * (1 + ((poss w i).length : Int)) := wrap_id (by omega) (by omega)
        have d1 : decide ((i : Int) < (w.rs.l.length : Int)) = true := by simp; omega
        have d2 : decide (n ≤ 2000) = true := by simpa using hle
        have w3 : IntKind.i64.wrap ((i : Int) + 1) = ((i + 1 : Nat) : Int) := by rw [wrap_id (by omega) (by omega)]; omega
        simp (maxSteps := 1000000) only [go_sem, b_r_Work_l0, g1, g2, g5, g6, d1, d2, hpo, hln, w1, w2, w3, Nat.reduceEqDiff, Nat.reduceAdd, ↓reduceIte]
        refine ih (i + 1) _ _ _ (by omega) ?_
        exact ⟨g1, g2, rfl, rfl, hb0, rfl⟩
      · rw [if_neg hle]
        have d1 : decide ((i : Int) < (w.rs.l.length : Int)) = true := by simp; omega
        have d2 : decide (n ≤ 2000) = false := by simp; omega
        simp (maxSteps := 1000000) only [go_sem, b_r_Work_l0, b_r_Work_r0, g1, g2, g5, g6, d1, d2, Nat.reduceEqDiff, Nat.reduceAdd, ↓reduceIte]
  rw [callL_go (show AP 21 = some c_r_Work from rfl) rfl]
  simp (maxSteps := 1000000) only [go_sem, b_r_Work, Nat.reduceAdd]
  refine key w.rs.l.length 0 1 _ _ (by omega) ?_
  exact ⟨rfl, rfl, rfl, rfl, by omega, rfl⟩
end
end Go.Ax.Sx.Sc

namespace Go.Ax.Sx.Sc
open Go.Ax
set_option linter.unusedSimpArgs false
set_option linter.unusedVariables false
set_option maxRecDepth 100000

section
variable {s : Sig} {w : W}

def lightB (w : W) : Bool := fewB w && (decide (¬ smallE w = 0) || decide (workF w 2000 0 w.rs.l.length 1 ≤ 2000))

theorem smallE_ok {w : W} (h : smallE w = 0) : (weekE w).2.2 = 0 := by
  unfold smallE at h
  by_cases h0 : (weekE w).2.2 = 0
  · exact h0
  · rw [if_neg h0] at h; exact h

theorem l_Light (hs : Ok s) (hw : w.Ok) (hb : w.Big) : callL AP (.fn 5) [w.v] s = some (B (lightB w), s) := by
  have hfe : ∀ r, callL AP (.fn 20) [w.v] (s.push r) = some (B (fewB w), s.push r) := fun r => l_Few (hs.push r) hw hb
  simp only [W.v, rowW, Sl.v] at hfe
  unfold lightB
  cases hf : fewB w with
  | false =>
    rw [callL_go (show AP 5 = some c_l_Light from rfl) rfl]
    simp (maxSteps := 1000000) only [go_sem, b_l_Light, hfe, hf, Bool.false_and, Nat.reduceEqDiff, Nat.reduceAdd, ↓reduceIte]
  | true =>
    have hF := fewB_iff hf
    have hse : ∀ r, callL AP (.fn 10) [w.v] (s.push r) = some (I (smallE w), s.push r) := fun r => r_SmallErr (hs.push r) hw hF
    simp only [W.v, rowW, Sl.v] at hse
    by_cases h0 : smallE w = 0
    · have hwk : Wk w := ⟨hw, hF, weekE_ok (smallE_ok h0)⟩
      have hwo : ∀ r, callL AP (.fn 21) [w.v, I 2000] (s.push r) = some (I (workF w 2000 0 w.rs.l.length 1), s.push r) := fun r => r_Work (hs.push r) hwk
      simp only [W.v, rowW, Sl.v] at hwo
      rw [h0] at hse
      rw [callL_go (show AP 5 = some c_l_Light from rfl) rfl]
      simp (maxSteps := 1000000) only [go_sem, b_l_Light, hfe, hf, hse, hwo, h0, ne_eq, not_true, Bool.true_and, Bool.false_or, decide_false, Nat.reduceEqDiff, Nat.reduceAdd, ↓reduceIte]
    · have hd : decide (¬ smallE w = 0) = true := by simp [h0]
      rw [callL_go (show AP 5 = some c_l_Light from rfl) rfl]
      simp (maxSteps := 1000000) only [go_sem, b_l_Light, hfe, hf, hse, hd, ne_eq, Bool.true_and, Bool.true_or, Nat.reduceEqDiff, Nat.reduceAdd, ↓reduceIte]
end
end Go.Ax.Sx.Sc

namespace Go.Ax.Sx.Sc
open Go.Ax
set_option linter.unusedSimpArgs false
set_option linter.unusedVariables false
set_option maxRecDepth 100000

section
variable {s : Sig} {w : W}

/-- A slice that may be appended to: a literal, or one that was appended to here. -/
def AG (d es : Nat) (xs : List (List AV)) (x : AV) (tk : List (Option Nat)) : Prop :=
  x = .slice .full es xs ∨ ∃ g, x = .slice (.tok d g) es xs ∧ tk[g]? = some (some xs.length)

theorem AG.sl {d es : Nat} {xs : List (List AV)} {x : AV} {tk : List (Option Nat)} (h : AG d es xs x tk) : ∃ o, x = .slice o es xs := by
  rcases h with h | ⟨g, h, _⟩
  · exact ⟨_, h⟩
  · exact ⟨_, h⟩
theorem AG.ext {d es : Nat} {xs : List (List AV)} {x : AV} {tk tk' : List (Option Nat)} (h : AG d es xs x tk) (hx : ∀ (g : Nat) (n : Option Nat), tk[g]? = some n → tk'[g]? = some n) : AG d es xs x tk' := by
  rcases h with h | ⟨g, h, hg⟩
  · exact .inl h
  · exact .inr ⟨g, h, hx _ _ hg⟩
theorem AG.append {es : Nat} {xs : List (List AV)} {x : AV} {tk : List (Option Nat)} (h : AG s.acts.length es xs x tk) (hs : Ok s) (o : Own) {ys : List (List AV)} (hy : ys ≠ []) (hl : xs.length + ys.length ≤ 4294967296) :
    ∃ x' tk', (∀ bx, appendOp (s.push ⟨bx, tk⟩) es x (.slice o es ys) = some (x', s.push ⟨bx, tk'⟩)) ∧ AG s.acts.length es (xs ++ ys) x' tk' := by
  have hy' : ys.isEmpty = false := by cases ys <;> simp_all
  rcases h with rfl | ⟨g, rfl, hg⟩
  · refine ⟨.slice (.tok s.acts.length tk.length) es (xs ++ ys), tk ++ [some (xs.length + ys.length)], fun bx => ?_, .inr ⟨tk.length, rfl, by simp⟩⟩
    simp [appendOp, hy', Own.isNil, most, hl, ntok_push, addTok_push, cur_push]
  · refine ⟨.slice (.tok s.acts.length g) es (xs ++ ys), tk.set g (some (xs.length + ys.length)), fun bx => ?_, .inr ⟨g, rfl, ?_⟩⟩
    · simp [appendOp, hy', most, hl, tok_push, hg, ro_push, hs.ro, setTok_push]
    · rw [List.getElem?_set_self (List.getElem?_eq_some_iff.1 hg).1]; simp

/-- the copy of a plan, to which a pass is to be added -/
theorem r_Copy_o {tk : List (Option Nat)} {l : List P} {o : Own} {e : Nat} (hs : Ok s) (hl : PlOk l) (he : l = [] ∨ e = 3) :
    ∃ x og tk', (∀ bx, calloOp (callL AP) (s.push ⟨bx, tk⟩) 56 [.slice o e (l.map rowP)] = some (x, s.push ⟨bx, tk'⟩)) ∧ Acc s.acts.length 3 ((l.map cP).map rowP) x og tk' ∧ ((og = none ∧ tk' = tk) ∨ (og = some tk.length ∧ tk' = tk ++ [some l.length])) := by
  by_cases hl0 : l = []
  · subst hl0
    refine ⟨.slice .nilS 0 [], none, tk, fun bx => ?_, ⟨rfl, rfl⟩, .inl ⟨rfl, rfl⟩⟩
    obtain ⟨x, og, tk', h1, h2, _⟩ := r_Copy (o := o) (e := e) (Q := roS (s.push ⟨bx, tk⟩)) (tk := []) ok_roS hl he
    have h1 := h1 []
    cases og with
    | some g => exact absurd rfl h2.1
    | none =>
      obtain ⟨_, rfl⟩ := h2
      unfold calloOp
      rw [show ({ (s.push ⟨bx, tk⟩).push ⟨[], []⟩ with ro := (s.push ⟨bx, tk⟩).acts.length, lro := (s.push ⟨bx, tk⟩).loops.length } : Sig) = (roS (s.push ⟨bx, tk⟩)).push ⟨[], []⟩ from rfl, h1]
      rfl
  · refine ⟨.slice (.tok s.acts.length tk.length) 3 ((l.map cP).map rowP), some tk.length, tk ++ [some l.length], fun bx => ?_, ⟨by simpa using hl0, rfl, by simp⟩, .inr ⟨rfl, rfl⟩⟩
    obtain ⟨x, og, tk', h1, h2, h3⟩ := r_Copy (o := o) (e := e) (Q := roS (s.push ⟨bx, tk⟩)) (tk := []) ok_roS hl he
    have h1 := h1 []
    have hac : (roS (s.push ⟨bx, tk⟩)).acts.length = (s.push ⟨bx, tk⟩).acts.length := rfl
    have hcur : (s.push ⟨bx, tk⟩).cur = s.acts.length := cur_push _ _
    have hlen : (s.push ⟨bx, tk⟩).acts.length = s.acts.length + 1 := by simp [Sig.push]
    cases og with
    | none => exact absurd h2.1 (by simpa using hl0)
    | some g =>
      obtain ⟨_, rfl, hg⟩ := h2
      have htk' : tk' = [some l.length] := by
        rcases h3 with rfl | rfl
        · simp at hg
        · rfl
      subst htk'
      have hg0 : g = 0 := by
        have := (List.getElem?_eq_some_iff.1 hg).1
        simpa using this
      subst hg0
      unfold calloOp
      rw [show ({ (s.push ⟨bx, tk⟩).push ⟨[], []⟩ with ro := (s.push ⟨bx, tk⟩).acts.length, lro := (s.push ⟨bx, tk⟩).loops.length } : Sig) = (roS (s.push ⟨bx, tk⟩)).push ⟨[], []⟩ from rfl, h1]
      have htok : ((roS (s.push ⟨bx, tk⟩)).push ⟨[], [some l.length]⟩).tok (s.push ⟨bx, tk⟩).acts.length 0 = some l.length := by
        have := tok_push (roS (s.push ⟨bx, tk⟩)) ⟨[], [some l.length]⟩ 0
        rw [hac] at this; rw [this]; rfl
      have hro : (s.push ⟨bx, tk⟩).ro < (s.push ⟨bx, tk⟩).acts.length := by rw [hlen]; have := hs.ro; show s.ro < _; omega
      simp only [hac]
      rw [if_pos ⟨trivial, by omega, hro, by rw [htok, List.length_map, List.length_map]⟩]
      simp only [hcur, ntok_push, addTok_push, List.length_map]

/-- the copy of a plan with one more pass -/
theorem copy_app {tk : List (Option Nat)} {l : List P} {o : Own} {e : Nat} (hs : Ok s) (hl : PlOk l) (he : l = [] ∨ e = 3) :
    ∃ oc ec rc tkc, (∀ bx, calloOp (callL AP) (s.push ⟨bx, tk⟩) 56 [.slice o e (l.map rowP)] = some (.slice oc ec rc, s.push ⟨bx, tkc⟩)) ∧
      ∀ (bx : List (List AV)) (o' : Own) (row : List AV), appendOp (s.push ⟨bx, tkc⟩) 3 (.slice oc ec rc) (.slice o' 3 [row]) = some (.slice (.tok s.acts.length tk.length) 3 ((l.map cP).map rowP ++ [row]), s.push ⟨bx, tk ++ [some (l.length + 1)]⟩) := by
  obtain ⟨x, og, tk', h1, h2, h3⟩ := r_Copy_o (tk := tk) (o := o) (e := e) hs hl he
  have hll := hl.len
  rcases h3 with ⟨rfl, rfl⟩ | ⟨rfl, rfl⟩
  · obtain ⟨h2, rfl⟩ := h2
    have hl0 : l = [] := by simpa using h2
    subst hl0
    refine ⟨_, _, _, _, h1, fun bx o' row => ?_⟩
    simp [appendOp, Own.isNil, most, ntok_push, addTok_push]
  · obtain ⟨_, rfl, hg⟩ := h2
    refine ⟨_, _, _, _, h1, fun bx o' row => ?_⟩
    have hle : l.length + 1 ≤ 4294967296 := by omega
    simp [appendOp, most, hle, tok_push, ro_push, hs.ro, setTok_push]
end
end Go.Ax.Sx.Sc

namespace Go.Ax.Sx.Sc
open Go.Ax
set_option linter.unusedSimpArgs false
set_option linter.unusedVariables false
set_option maxRecDepth 100000

section
variable {s : Sig} {w : W}

/-- how many plans there may be -/
def plsN (w : W) : Nat → Nat → Nat
  | _, 0 => 1
  | i, k + 1 => (1 + (poss w (i : Int)).length) * plsN w (i + 1) k

theorem flat_len {α β : Type} {f : α → List β} {N : Nat} : ∀ {L : List α}, (∀ x ∈ L, (f x).length ≤ N) → (L.flatMap f).length ≤ L.length * N
  | [], _ => by simp
  | x :: r, h => by
    rw [List.flatMap_cons, List.length_append, List.length_cons, Nat.add_mul, Nat.one_mul]
    have h1 := h x (by simp)
    have h2 := flat_len (L := r) fun y hy => h y (List.mem_cons_of_mem _ hy)
    omega

theorem pls_len {rq : List Int} : ∀ {k i : Nat} {l : List P}, (pls w rq i k l).length ≤ plsN w i k
  | 0, _, _ => by simp [pls, plsN]
  | k + 1, i, l => by
    simp only [pls, plsN]
    rw [List.length_append, Nat.add_mul, Nat.one_mul]
    have h1 := pls_len (rq := rq) (k := k) (i := i + 1) (l := l)
    have h2 : (if (rq.any fun x => decide (x = (i : Int))) = true then (plcs w l i).flatMap fun p => pls w rq (i + 1) k (l ++ [p]) else []).length ≤ (poss w (i : Int)).length * plsN w (i + 1) k := by
      split
      · refine Nat.le_trans (flat_len fun x _ => pls_len) ?_
        exact Nat.mul_le_mul_right _ (List.length_filter_le _ _)
      · simp
    omega

theorem pls_ne {rq : List Int} : ∀ {k i : Nat} {l : List P}, pls w rq i k l ≠ []
  | 0, _, _ => by simp [pls]
  | k + 1, i, l => by
    simp only [pls]
    intro h
    exact pls_ne (List.append_eq_nil_iff.1 h).1

theorem workF_N {most : Int} : ∀ {k i : Nat} {n : Int}, 1 ≤ n → workF w most i k n ≤ most → n * (plsN w i k : Int) ≤ most
  | 0, i, n, hn, h => by simpa [workF, plsN] using h
  | k + 1, i, n, hn, h => by
    simp only [workF] at h
    by_cases hle : n ≤ most
    · rw [if_pos hle] at h
      have h1 : 1 ≤ n * (1 + ((poss w (i : Int)).length : Int)) := by
        have := Int.mul_pos (show (0 : Int) < n by omega) (show (0 : Int) < 1 + ((poss w i).length : Int) by omega)
        omega
      have := workF_N (k := k) (i := i + 1) h1 h
      simp only [plsN]
      rw [Int.natCast_mul, ← Int.mul_assoc]
      simpa using this
    · rw [if_neg hle] at h; exact absurd h hle

/-- Words that do not hang on owners. -/
theorem confs_cP {p : P} : ∀ {l : List P}, confs w p (l.map cP) = confs w p l
  | [] => rfl
  | x :: r => by
    have h := confs_cP (p := p) (l := r)
    unfold confs at *
    rw [List.map_cons, List.any_cons, List.any_cons, h]; rfl
theorem plcs_cP {l : List P} {i : Int} : plcs w (l.map cP) i = plcs w l i := by
  unfold plcs
  simp only [confs_cP]
theorem poss_cP (hw : Wk w) {i : Int} (h0 : 0 ≤ i) (h1 : i < w.rs.l.length) {p : P} {n : Nat} (hp : p ∈ poss w i) : cP (reS n p) = p := by
  obtain ⟨_, _, _, _, _, he, _⟩ := poss_in hw h0 h1 hp
  obtain ⟨a, b, c⟩ := p
  show (⟨a, b, cpI c.l⟩ : P) = _
  rw [← he]

/-- the owner that others see -/
def clo : Own → Own
  | .tok _ _ => .any
  | o => o
theorem clo_close {o : Own} {e : Nat} {xs : List (List AV)} : (AV.slice o e xs).close = some (.slice (clo o) e xs) := by
  cases o <;> rfl

/-- a plan among plans -/
structure YOk (w : W) (y : Sl P) : Prop where
  ok : y.ok 3
  pl : PlOk y.l
  pin : ∀ p ∈ y.l, PIn w p

theorem own_full {Q : Sig} {R : Rec} {es : Nat} {xs : List (List AV)} : ownResult (Q.push R) (.slice .full es xs) = some (.slice .full es xs, Q) := by
  show some (_, (Q.push R).pop) = _
  rw [pop_push]

theorem AG.own {Q : Sig} {bx : List (List AV)} {tk : List (Option Nat)} {B : List (List AV)} {es : Nat} {xs : List (List AV)} {x : AV} {tks : List (Option Nat)} (hQ : Ok Q) (h : AG (Q.acts.length + 1) es xs x tks) :
    ∃ x' tk', ownResult ((Q.push ⟨bx, tk⟩).push ⟨B, tks⟩) x = some (x', Q.push ⟨bx, tk'⟩) ∧ AG Q.acts.length es xs x' tk' ∧ (∀ (g : Nat) (n : Option Nat), tk[g]? = some n → tk'[g]? = some n) := by
  rcases h with rfl | ⟨g, rfl, hg⟩
  · exact ⟨_, _, own_full, .inl rfl, fun _ _ h => h⟩
  · refine ⟨_, _, own_push hQ (R := ⟨bx, tk⟩) (r0 := ⟨B, tks⟩) hg, .inr ⟨tk.length, rfl, by simp⟩, fun g n h => ?_⟩
    rw [List.getElem?_append_left (List.getElem?_eq_some_iff.1 h).1]; exact h

/-- What a search hands back: its plans, as they lie. -/
def PlsR (w : W) (Q : Sig) (bx : List (List AV)) (tk : List (Option Nat)) (L : List (List P)) (v : Option (AV × Sig)) : Prop :=
  ∃ (Y : List (Sl P)) (x : AV) (tk' : List (Option Nat)), v = some (x, Q.push ⟨bx, tk'⟩) ∧ AG Q.acts.length 1 (Y.map fun y => [y.v rowP]) x tk' ∧ (∀ (g : Nat) (n : Option Nat), tk[g]? = some n → tk'[g]? = some n) ∧ (Y.map fun y => y.l.map cP) = L ∧ ∀ y ∈ Y, YOk w y

theorem r_Plans (hw : Wk w) {rq : List Int} {o2 : Own} {e2 : Nat} (he2 : rq = [] ∨ e2 = 1) (hrq : (rq.length : Int) < 9223372036854775808) : ∀ (k i : Nat) {Q : Sig} {bx : List (List AV)} {tk : List (Option Nat)} {l : List P} {o : Own} {e : Nat},
    Ok Q → i + k = w.rs.l.length → plsN w i k ≤ 4294967296 → PlOk l → l.length ≤ i → (∀ p ∈ l, PIn w p) → (l = [] ∨ e = 3) → (o.isNil = true → l = []) →
    PlsR w Q bx tk (pls w rq i k (l.map cP)) (callL AP (.fn 35) [w.v, .slice o e (l.map rowP), I i, .slice o2 e2 (rq.map rowI)] (Q.push ⟨bx, tk⟩)) := by
  have hrl := hw.v.rl
  intro k
  induction k with
  | zero =>
    intro i Q bx tk l o e hQ hk hN hl hli hin he ho
    have hi : i = w.rs.l.length := by omega
    subst hi
    have hs : Ok (Q.push ⟨bx, tk⟩) := hQ.push _
    have hcl := clo_close (o := o) (e := e) (xs := l.map rowP)
    refine ⟨[⟨clo o, e, l⟩], .slice .full 1 [[.slice (clo o) e (l.map rowP)]], tk, ?_, .inl rfl, fun _ _ h => h, rfl, fun y hy => ?_⟩
    · rw [callL_go (show AP 35 = some c_r_Plans from rfl) rfl]
      simp (maxSteps := 1000000) only [go_sem, b_r_Plans, hcl, own_full, Nat.reduceEqDiff, Nat.reduceAdd, ↓reduceIte]
    · rw [List.mem_singleton] at hy; subst hy
      refine ⟨⟨he, ?_⟩, hl, hin⟩
      cases o with
      | nilS => exact .inr (.inr ⟨rfl, ho rfl⟩)
      | any => exact .inl rfl
      | full => exact .inr (.inl rfl)
      | tok d g => exact .inl rfl
  | succ k ih =>
    intro i Q bx tk l o e hQ hk hN hl hli hin he ho
    have hs : Ok (Q.push ⟨bx, tk⟩) := hQ.push _
    have hlen : (Q.push ⟨bx, tk⟩).acts.length = Q.acts.length + 1 := by simp [Sig.push]
    have hN1 : plsN w (i + 1) k ≤ 4294967296 := by
      refine Nat.le_trans ?_ hN
      simp only [plsN]
      exact Nat.le_mul_of_pos_left _ (by omega)
    have w1 : IntKind.i64.wrap ((i : Int) + 1) = ((i + 1 : Nat) : Int) := by rw [wrap_id (by omega) (by omega)]; omega
    obtain ⟨Y0, x0, tk0, hc0, hA0, hx0, hm0, hy0⟩ := ih (i + 1) (Q := Q.push ⟨bx, tk⟩) (bx := [rowW w]) (tk := []) (l := l) (o := o) (e := e) hs (by omega) hN1 hl (by omega) hin he ho
    have d1 : decide ((i : Int) = (w.rs.l.length : Int)) = false := by simp; omega
    have hhas : ∀ m : Sig, callL AP (.fn 54) [.slice o2 e2 (rq.map rowI), I i] m = some (B (rq.any fun m => decide (m = (i : Int))), m) := fun m => b_Has he2 hrq
    cases hr : rq.any fun m => decide (m = (i : Int)) with
    | false =>
      rw [hlen] at hA0
      obtain ⟨xr, tkr, ho1, ho2, ho3⟩ := hA0.own (bx := bx) (tk := tk) (B := [rowW w]) hQ
      refine ⟨Y0, xr, tkr, ?_, ho2, ho3, ?_, hy0⟩
      · simp only [W.v, rowW, Sl.v] at hc0 ho1
        rw [hr] at hhas
        rw [callL_go (show AP 35 = some c_r_Plans from rfl) rfl]
        simp (maxSteps := 1000000) only [go_sem, b_r_Plans, d1, w1, hc0, hhas, Bool.not_false, Nat.reduceEqDiff, Nat.reduceAdd, ↓reduceIte]
        exact ho1
      · rw [hm0]; simp only [pls]; rw [if_neg (by rw [hr]; decide), List.append_nil]
    | true =>
      have hpl : ∀ r, callL AP (.fn 55) [w.v, .slice o e (l.map rowP), I i] ((Q.push ⟨bx, tk⟩).push r) = some (accV 3 (((plcs w l i).map (reS (w.rq i).need.toNat)).map rowP), (Q.push ⟨bx, tk⟩).push r) := fun r => r_Placements (hs.push r) hw (by omega) (by omega) he hl.len hin
      have hpm : ∀ p ∈ plcs w l i, p ∈ poss w i := fun p hp => (List.mem_filter.1 hp).1
      have hcnt : (plcs w l i).length ≤ (poss w i).length := List.length_filter_le _ _
      have hcnt2 := poss_count hw (i := (i : Int)) (by omega) (by omega)
      have hdef : pls w rq i (k + 1) (l.map cP) = pls w rq (i + 1) k (l.map cP) ++ (plcs w l i).flatMap fun p => pls w rq (i + 1) k (l.map cP ++ [p]) := by
        simp only [pls]; rw [if_pos hr, plcs_cP]
      rw [hdef]
      have hNN : (1 + (plcs w l i).length) * plsN w (i + 1) k ≤ 4294967296 := Nat.le_trans (Nat.mul_le_mul_right _ (by omega)) hN
      generalize hpd : plcs w l (i : Int) = pp at *
      generalize hnd : (w.rq i).need.toNat = n at *
      have hlenp : lenOp false (accV 3 ((pp.map (reS n)).map rowP)) = some (I pp.length) := by rw [len_acc, List.length_map, List.length_map]
      have key : ∀ (d j : Nat) (ρ : Nat → AV) (m : Sig), j + d = pp.length → (ρ 1 = .slice o e (l.map rowP) ∧ ρ 2 = I i ∧ ρ 3 = .slice o2 e2 (rq.map rowI) ∧ ρ 4 = .ptr (Q.push ⟨bx, tk⟩).acts.length 0 0 ∧ ρ 10 = accV 3 ((pp.map (reS n)).map rowP) ∧ ρ 11 = I j ∧
          ∃ (Y : List (Sl P)) (tks : List (Option Nat)), AG (Q.push ⟨bx, tk⟩).acts.length 1 (Y.map fun y => [y.v rowP]) (ρ 9) tks ∧ (Y.map fun y => y.l.map cP) = pls w rq (i + 1) k (l.map cP) ++ (pp.take j).flatMap (fun p => pls w rq (i + 1) k (l.map cP ++ [p])) ∧ (∀ y ∈ Y, YOk w y) ∧ m = (Q.push ⟨bx, tk⟩).push ⟨[rowW w], tks⟩) →
          PlsR w Q bx tk (pls w rq (i + 1) k (l.map cP) ++ pp.flatMap (fun p => pls w rq (i + 1) k (l.map cP ++ [p]))) (go AP f_r_Plans (.c (.loop b_r_Plans_l0) :: k_r_Plans_0) ⟨ρ, m⟩) := by
        intro d
        induction d with
        | zero =>
          rintro j ρ m hj ⟨g1, g2, g3, g4, g10, g11, Y, tks, hA, hY, hYo, rfl⟩
          have hj2 : j = pp.length := by omega
          subst hj2
          rw [List.take_length] at hY
          rw [hlen] at hA
          obtain ⟨xr, tkr, ho1, ho2, ho3⟩ := hA.own (bx := bx) (tk := tk) (B := [rowW w]) hQ
          refine ⟨Y, xr, tkr, ?_, ho2, ho3, hY, hYo⟩
          rw [go_loop]
          simp (maxSteps := 1000000) only [go_sem, b_r_Plans_l0, b_r_Plans_r0, g10, g11, hlenp, ge_dec, Nat.reduceEqDiff, ↓reduceIte]
          exact ho1
        | succ d ihd =>
          rintro j ρ m hj ⟨g1, g2, g3, g4, g10, g11, Y, tks, hA, hY, hYo, rfl⟩
          obtain ⟨p, hp⟩ := get_some (show j < pp.length by omega)
          have hpp := hpm p (List.mem_of_getElem? hp)
          obtain ⟨hpin, hpr, _, _, hpn, _, hsub, _⟩ := poss_in hw (show (0 : Int) ≤ (i : Int) by omega) (by omega) hpp
          have hpc : cP (reS n p) = p := poss_cP hw (by omega) (by omega) hpp
          have hpl3 : p.an.l.length ≤ 6 := by
            have hq := hw.few.an _ (W.rq_mem (w := w) (i := (i : Int)) (by omega) (by omega))
            have := hsub.length_le
            omega
          have hix : indexAddrOp none 3 (accV 3 ((pp.map (reS n)).map rowP)) (I j) = some (.eptr (rowP (reS n p)) 0) := ix_acc (by rw [List.getElem?_map, List.getElem?_map, hp]; rfl)
          obtain ⟨oc, ec, rc, tkc, hcp, hap⟩ := copy_app (s := Q.push ⟨bx, tk⟩) (tk := tks) (l := l) (o := o) (e := e) hs hl he
          have hcl : closeAll [I p.req, I p.start, (stS n p.an.l).v rowI] = some (rowP (reS n p)) := by
            simp only [closeAll_cons, closeAll_nil, close_int, Sl.close (f := rowI) (stS_ok (n := n) (g := p.an.l))]; rfl
          have hap := hap [rowW w] .full (rowP (reS n p))
          have hmap : (l.map cP).map rowP ++ [rowP (reS n p)] = (l.map cP ++ [reS n p]).map rowP := by rw [List.map_append]; rfl
          rw [hmap] at hap
          have hcc : (l.map cP ++ [reS n p]).map cP = l.map cP ++ [p] := by
            rw [List.map_append, List.map_map, List.map_cons, List.map_nil, hpc]
            congr 1
          have hcok := cP_ok hl
          obtain ⟨Y2, x2, tk2, hc2, hA2, hx2, hm2, hy2⟩ := ih (i + 1) (Q := Q.push ⟨bx, tk⟩) (bx := [rowW w]) (tk := tks ++ [some (l.length + 1)]) (l := l.map cP ++ [reS n p]) (o := .tok (Q.push ⟨bx, tk⟩).acts.length tks.length) (e := 3) hs (by omega) hN1
            ⟨by rw [List.length_append, List.length_map, List.length_singleton]; omega, fun q hq => by
              rw [List.mem_append, List.mem_singleton] at hq
              rcases hq with hq | rfl
              · exact hcok.ok q hq
              · exact ⟨stS_ok, hpl3⟩⟩
            (by rw [List.length_append, List.length_map, List.length_singleton]; omega)
            (fun q hq => by
              rw [List.mem_append, List.mem_singleton] at hq
              rcases hq with hq | rfl
              · obtain ⟨a, ha, rfl⟩ := List.mem_map.1 hq
                have h := hin a ha
                exact ⟨h.r0, h.r1, h.s0, h.s1, h.an, cpI_ok, h.len⟩
              · exact pin_re hpin)
            (.inr rfl) (fun h => by cases h)
          rw [hcc] at hm2
          have hlY : Y.length = (pls w rq (i + 1) k (l.map cP) ++ (pp.take j).flatMap (fun p => pls w rq (i + 1) k (l.map cP ++ [p]))).length := by rw [← hY, List.length_map]
          have hlY2 : Y2.length = (pls w rq (i + 1) k (l.map cP ++ [p])).length := by rw [← hm2, List.length_map]
          have hsum : Y.length + Y2.length ≤ 4294967296 := by
            have a1 := pls_len (w := w) (rq := rq) (k := k) (i := i + 1) (l := l.map cP)
            have a2 := pls_len (w := w) (rq := rq) (k := k) (i := i + 1) (l := l.map cP ++ [p])
            have a3 : ((pp.take j).flatMap (fun p => pls w rq (i + 1) k (l.map cP ++ [p]))).length ≤ (pp.take j).length * plsN w (i + 1) k := flat_len fun x _ => pls_len
            have a4 : (pp.take j).length = j := by rw [List.length_take]; omega
            rw [a4] at a3
            rw [List.length_append] at hlY
            have a5 : (1 + j + 1) * plsN w (i + 1) k ≤ (1 + pp.length) * plsN w (i + 1) k := Nat.mul_le_mul_right _ (by omega)
            rw [Nat.add_mul, Nat.add_mul, Nat.one_mul] at a5
            omega
          have hne2 : (Y2.map fun y => [y.v rowP]) ≠ [] := by
            intro h
            have : Y2 = [] := by simpa using h
            rw [this] at hm2
            exact pls_ne hm2.symm
          obtain ⟨xo, hxo⟩ := hA2.sl
          have hAx : AG (Q.push ⟨bx, tk⟩).acts.length 1 (Y.map fun y => [y.v rowP]) (ρ 9) tk2 := hA.ext fun g n h => hx2 g n (by rw [List.getElem?_append_left (List.getElem?_eq_some_iff.1 h).1]; exact h)
          obtain ⟨x3, tk3, ha1, ha2⟩ := hAx.append hs xo hne2 (by rw [List.length_map, List.length_map]; omega)
          rw [← hxo] at ha1
          have ha1 := ha1 [rowW w]
          have d2 : decide ((j : Int) < (pp.length : Int)) = true := by simp; omega
          have w2 : IntKind.i64.wrap ((j : Int) + 1) = ((j + 1 : Nat) : Int) := by rw [wrap_id (by omega) (by omega)]; omega
          simp only [rowP, Sl.v, W.v, rowW, reS, stS] at hcl hix hap hc2 hcp
          rw [go_loop]
          simp (maxSteps := 1000000) only [go_sem, b_r_Plans_l0, g1, g2, g3, g4, g10, g11, hlenp, d2, w1, w2, hcp, hix, hcl, hap, hc2, ha1, Nat.reduceEqDiff, ↓reduceIte]
          refine ihd (j + 1) _ _ (by omega) ?_
          refine ⟨g1, g2, g3, g4, g10, rfl, Y ++ Y2, tk3, by rw [List.map_append]; exact ha2, ?_, fun y hy => ?_, rfl⟩
          · rw [List.map_append, hY, hm2, take_get hp, List.flatMap_append, List.append_assoc]; simp
          · rcases List.mem_append.1 hy with h | h
            · exact hYo y h
            · exact hy2 y h
      simp only [W.v, rowW, Sl.v] at hc0 hpl
      rw [hr] at hhas
      rw [callL_go (show AP 35 = some c_r_Plans from rfl) rfl]
      simp (maxSteps := 1000000) only [go_sem, b_r_Plans, d1, w1, hc0, hhas, hpl, Bool.not_true, Nat.reduceEqDiff, Nat.reduceAdd, ↓reduceIte]
      refine key pp.length 0 _ _ (by omega) ?_
      exact ⟨rfl, rfl, rfl, rfl, rfl, rfl, Y0, tk0, hA0, by rw [hm0]; simp, hy0, rfl⟩
end
end Go.Ax.Sx.Sc

namespace Go.Ax.Sx.Sc
open Go.Ax
set_option linter.unusedSimpArgs false
set_option linter.unusedVariables false
set_option maxRecDepth 100000

section
variable {s : Sig} {w : W}

abbrev rqs (n : Nat) : List Int := (List.range n).map fun i : Nat => (i : Int)

theorem Wk.c (hw : Wk w) (h0 : (weekE w).2.2 = 0) : Wk (cW w) := ⟨cW_Ok, cW_Few hw.few, weekE_ok (by rw [weekE_c]; exact h0)⟩

theorem pls_c (hw : Wk w) {rq : List Int} : ∀ {k i : Nat} {l : List P}, i + k = w.rs.l.length → (∀ x ∈ l, 0 ≤ x.req ∧ x.req < w.rs.l.length) → pls (cW w) rq i k l = pls w rq i k l
  | 0, _, _, _, _ => rfl
  | k + 1, i, l, hk, hl => by
    simp only [pls]
    rw [pls_c hw (k := k) (i := i + 1) (by omega) hl, ← plcs_cP (w := cW w), plcs_c hw (by omega) (by omega) hl]
    congr 1
    split
    · have : ∀ L : List P, (∀ p ∈ L, p ∈ plcs w l (i : Int)) → (L.flatMap fun p => pls (cW w) rq (i + 1) k (l ++ [p])) = L.flatMap fun p => pls w rq (i + 1) k (l ++ [p]) := by
        intro L
        induction L with
        | nil => intro _; rfl
        | cons a L ih =>
          intro h
          have ha := h a (by simp)
          obtain ⟨hpin, _⟩ := poss_in hw (show (0 : Int) ≤ (i : Int) by omega) (by omega) (List.mem_filter.1 ha).1
          rw [List.flatMap_cons, List.flatMap_cons, ih fun p hp => h p (List.mem_cons_of_mem _ hp), pls_c hw (k := k) (i := i + 1) (by omega) fun x hx => by
            rw [List.mem_append, List.mem_singleton] at hx
            rcases hx with hx | rfl
            · exact hl x hx
            · exact ⟨hpin.r0, hpin.r1⟩]
      exact this _ fun _ h => h
    · rfl

theorem smallE_c : smallE (cW w) = smallE w := by
  unfold smallE
  rw [weekE_c]
  have : smallB (cW w) = smallB w := by
    unfold smallB
    rw [cW_len, cW_rs, List.any_map]; rfl
  rw [this]

theorem light_N {w : W} (h : lightB w = true) (h0 : smallE w = 0) : plsN w 0 w.rs.l.length ≤ 2000 := by
  unfold lightB at h
  rw [Bool.and_eq_true, Bool.or_eq_true, decide_eq_true_eq, decide_eq_true_eq] at h
  rcases h.2 with h | h
  · exact absurd h0 h
  · have := workF_N (show (1 : Int) ≤ 1 by omega) h
    omega

end
end Go.Ax.Sx.Sc

namespace Go.Ax.Sx.Sc
open Go.Ax
set_option linter.unusedSimpArgs false
set_option linter.unusedVariables false
set_option maxRecDepth 100000

section
variable {s : Sig} {w : W}

/-- a set of requests, as a mask -/
def maskO (l : List Int) : Nat := l.foldl (fun m i => m ||| 2 ^ i.toNat) 0
theorem maskO_snoc {l : List Int} {i : Int} : maskO (l ++ [i]) = maskO l ||| 2 ^ i.toNat := by
  unfold maskO; rw [List.foldl_append]; rfl
theorem maskO_bit : ∀ {l : List Int} {o k : Nat}, (l.foldl (fun m i => m ||| 2 ^ i.toNat) o).testBit k = (o.testBit k || l.any fun i => decide (i.toNat = k))
  | [], o, k => by simp
  | a :: r, o, k => by
    rw [List.foldl_cons, maskO_bit, Nat.testBit_or, Nat.testBit_two_pow, List.any_cons, Bool.or_assoc]
theorem maskO_lt {l : List Int} {n : Nat} (h : ∀ i ∈ l, 0 ≤ i ∧ i < n) : maskO l < 2 ^ n := by
  apply Nat.lt_pow_two_of_testBit
  intro k hk
  unfold maskO
  rw [maskO_bit, Nat.zero_testBit, Bool.false_or]
  cases hc : l.any fun i => decide (i.toNat = k) with
  | false => rfl
  | true =>
    obtain ⟨i, hi, he⟩ := List.any_eq_true.1 hc
    have := h i hi
    have := of_decide_eq_true he
    omega

theorem fst2 {a b : Int} : firstErr [a, b] = if a = 0 then b else a := by
  unfold firstErr
  by_cases h : a = 0
  · subst h
    unfold firstErr
    by_cases h2 : b = 0
    · subst h2; rfl
    · simp [h2]
  · simp [h]

theorem prevA_succ {l : List Int} {k : Nat} {a : Int} (h : l[k]? = some a) : prevA l (k + 1) = a := by show l.getD k 0 = a; rw [List.getD, h]; rfl

theorem s_Together {l : List Int} {o : Own} {e : Nat} (hs : Ok s) (hw : w.Ok) (hf : w.Few) (he : l = [] ∨ e = 1) (hl : l.length ≤ 100000) :
    callL AP (.fn 6) [w.v, .slice o e (l.map rowI)] s = some (.tuple [B (if smallE w = 0 then (if reqsE w.rs.l.length (-1) l = 0 then fitsB w (freeC w) [] (maskO l) else false) else false), I (if smallE w = 0 then reqsE w.rs.l.length (-1) l else smallE w)], s) := by
  have ho : ∀ r, callL AP (.fn 22) [w.v] (s.push r) = some (.tuple [if (weekE w).2.2 = 0 then OW w else NP, I (smallE w)], s.push r) := fun r => s_openSmall (hs.push r) hw hf
  simp only [W.v, rowW, Sl.v] at ho
  by_cases h0 : smallE w = 0
  · have hwe := smallE_ok h0
    have hwk : Wk w := ⟨hw, hf, weekE_ok hwe⟩
    have hrl := hwk.v.rl
    rw [if_pos hwe, h0] at ho
    have hfr : ∀ r, callL AP (.fn 26) [OW w] (s.push r) = some (CH w (acS 2 (freeC w)).o (acS 2 (freeC w)).e (freeC w), s.push r) := fun r => by
      rw [w_free (hs.push r) hwk, acS_v]; simp only [Sl.v, acS_l]
    simp only [h0, if_true]
    have key : ∀ (k : Nat) ρ m, k ≤ l.length → (ρ 6 = OW w ∧ ρ 8 = I ((maskO (l.take k) : Nat) : Int) ∧ ρ 9 = I (prevA l k) ∧ ρ 21 = .slice o e (l.map rowI) ∧ ρ 22 = I l.length ∧ ρ 23 = I k ∧ (∀ i ∈ l.take k, 0 ≤ i ∧ i < w.rs.l.length) ∧ -1 ≤ prevA l k ∧ reqsE w.rs.l.length (-1) l = reqsE w.rs.l.length (prevA l k) (l.drop k) ∧ ∃ bx, m = s.push ⟨bx, []⟩) →
        go AP f_s_Together (.c (.loop b_s_Together_l0) :: k_s_Together_0) ⟨ρ, m⟩ = some (.tuple [B (if reqsE w.rs.l.length (-1) l = 0 then fitsB w (freeC w) [] (maskO l) else false), I (reqsE w.rs.l.length (-1) l)], s) := by
      refine loop_up l.length _ _ ?_ ?_
      · rintro k ρ m hk ⟨g6, g8, g9, g21, g22, g23, hin, hpv, hE, bx, rfl⟩ ih
        obtain ⟨a, ha⟩ := get_some hk
        have he : e = 1 := by rcases he with h | h; (rw [h] at ha; simp at ha); exact h
        subst he
        have hr := ix_map (o := o) (es := 1) (f := rowI) ha
        have hre : ∀ r, callL AP (.fn 24) [OW w, I a] (s.push r) = some (I (cond (wi a 0 (w.rs.l.length - 1)) 0 6), s.push r) := fun r => w_requestErr hwk
        have hun : ∀ (m : Sig) (c : Bool), callL AP (.fn 25) [B c, I 9] m = some (I (cond c 0 9), m) := fun m c => s_unless
        have hfi : ∀ (m : Sig) (a b : Int), callL AP (.fn 23) [.slice .full 1 [[I a], [I b]]] m = some (I (if a = 0 then b else a), m) := fun m a b => by rw [s_first2, fst2]
        rw [drop_get ha, reqsE] at hE
        cases h1 : wi a 0 (w.rs.l.length - 1) with
        | false =>
          rw [h1, if_neg (by decide)] at hE
          rw [h1] at hre
          rw [hE]
          simp only [OW] at hre g6
          simp (maxSteps := 1000000) only [go_sem, b_s_Together_l0, g6, g9, g21, g22, g23, lt_dec hk, hr, hre, hun, hfi, cond_false, cond_true, ne_eq, not_false_iff, decide_true, Nat.reduceEqDiff, Int.reduceEq, ↓reduceIte]
        | true =>
          rw [h1, if_pos rfl] at hE
          rw [h1] at hre
          have ha0 := wi_iff.1 h1
          by_cases hlt : prevA l k < a
          · rw [if_pos hlt] at hE
            have hd : decide (prevA l k < a) = true := by simpa using hlt
            have hm1 : maskO (l.take k) < 2 ^ 63 := lt63 (maskO_lt hin) (by omega)
            have hm2 : 2 ^ a.toNat < 2 ^ 63 := Nat.pow_lt_pow_right (by decide) (by omega)
            have hsh := ar_shln (k := a.toNat) (by omega)
            rw [show ((a.toNat : Nat) : Int) = a by omega] at hsh
            have hor := ar_or hm1 hm2
            have hwk1 := wrap_succ hk (show (l.length : Int) < _ by omega)
            simp only [OW] at hre g6
            simp (maxSteps := 1000000) only [go_sem, b_s_Together_l0, g6, g8, g9, g21, g22, g23, lt_dec hk, hr, hre, hun, hfi, hd, hsh, hor, hwk1, cond_false, cond_true, ne_eq, not_true, Nat.reduceEqDiff, Int.reduceNeg, ↓reduceIte]
            refine ih _ _ ?_
            refine ⟨by simp only [OW]; exact g6, by rw [take_get ha, maskO_snoc]; rfl, by rw [prevA_succ ha]; rfl, g21, g22, rfl, fun i hi => ?_, by rw [prevA_succ ha]; omega, by rw [prevA_succ ha]; exact hE, bx, rfl⟩
            rw [take_get ha, List.mem_append, List.mem_singleton] at hi
            rcases hi with hi | rfl
            · exact hin i hi
            · omega
          · rw [if_neg hlt] at hE
            have hd : decide (prevA l k < a) = false := by simpa using hlt
            rw [hE]
            simp only [OW] at hre g6
            simp (maxSteps := 1000000) only [go_sem, b_s_Together_l0, g6, g9, g21, g22, g23, lt_dec hk, hr, hre, hun, hfi, hd, cond_false, cond_true, ne_eq, not_false_iff, decide_true, Nat.reduceEqDiff, Int.reduceEq, ↓reduceIte]
      · rintro ρ m ⟨g6, g8, g9, g21, g22, g23, hin, hpv, hE, bx, rfl⟩
        rw [List.take_length] at hin g8
        rw [List.drop_length] at hE
        have hE : reqsE w.rs.l.length (-1) l = 0 := hE
        have hft : ∀ r, callL AP (.fn 27) [CH w (acS 2 (freeC w)).o (acS 2 (freeC w)).e (freeC w), .slice .nilS 0 [], I ((maskO l : Nat) : Int)] (s.push r) = some (B (fitsB w (freeC w) [] (maskO l)), s.push r) := fun r =>
          c_fits (plan := []) (o2 := .nilS) (e2 := 0) (hs.push r) hwk (freeC_ok hwk) (maskO_lt hin) (fun y hy => absurd hy (by simp)) (.inl rfl) (by simp)
        rw [hE]
        simp only [OW, CH] at hfr hft g6
        simp (maxSteps := 1000000) only [go_sem, b_s_Together_l0, b_s_Together_r0, g6, g8, g22, g23, ge_dec, hfr, hft, Nat.reduceEqDiff, ↓reduceIte]
    rw [callL_go (show AP 6 = some c_s_Together from rfl) rfl]
    simp only [OW] at ho key
    simp (maxSteps := 1000000) only [go_sem, b_s_Together, ho, ne_eq, not_true, Nat.reduceEqDiff, Nat.reduceAdd, Int.reduceNeg, ↓reduceIte]
    refine key 0 _ _ (Nat.zero_le _) ?_
    exact ⟨rfl, rfl, rfl, rfl, rfl, rfl, fun i hi => absurd hi (by simp), by show (-1 : Int) ≤ -1; omega, rfl, [rowW w], rfl⟩
  · rw [callL_go (show AP 6 = some c_s_Together from rfl) rfl]
    simp only [h0, if_false]
    simp (maxSteps := 1000000) only [go_sem, b_s_Together, ho, ne_eq, h0, not_false_iff, Nat.reduceEqDiff, Nat.reduceAdd, Int.reduceNeg, ↓reduceIte]

theorem r_Together (hs : Ok s) (hw : Wk w) {rq : List Int} {o : Own} {e : Nat} (he : rq = [] ∨ e = 1) (hrq : rq.length ≤ 100000) (hN : plsN w 0 w.rs.l.length ≤ 4294967296) :
    callL AP (.fn 14) [w.v, .slice o e (rq.map rowI)] s = some (B ((pls w rq 0 w.rs.l.length []).any fun x => decide (x.length = rq.length)), s) := by
  obtain ⟨Y, x, tk', hc, hA, _, hY, hYo⟩ := r_Plans (Q := s) (bx := [rowW w]) (tk := []) (l := []) (o := .nilS) (e := 0) (o2 := o) hw he (by omega) w.rs.l.length 0 hs (by omega) hN ⟨by simp, fun p hp => absurd hp (by simp)⟩ (by simp) (fun p hp => absurd hp (by simp)) (.inl rfl) (fun _ => rfl)
  have hYl : Y.length ≤ 4294967296 := by
    have h1 := pls_len (w := w) (rq := rq) (k := w.rs.l.length) (i := 0) (l := [].map cP)
    rw [← hY, List.length_map] at h1
    omega
  have hpn : ([] : List P).map cP = [] := rfl
  rw [hpn] at hY
  rw [← hY]
  obtain ⟨xo, rfl⟩ := hA.sl
  obtain ⟨Z, hZ⟩ : ∃ Z, Z = Y.map fun y => [AV.slice y.o y.e (y.l.map rowP)] := ⟨_, rfl⟩
  have hZl : Z.length = Y.length := by rw [hZ, List.length_map]
  have key : ∀ (j : Nat) ρ m, j ≤ Y.length → (ρ 1 = .slice o e (rq.map rowI) ∧ ρ 5 = .slice xo 1 Z ∧ ρ 6 = I j ∧ ∃ bx tk, m = s.push ⟨bx, tk⟩) →
      go AP f_r_Together (.c (.loop b_r_Together_l0) :: k_r_Together_0) ⟨ρ, m⟩ = some (B (((Y.drop j).map fun y => y.l.map cP).any fun x => decide (x.length = rq.length)), s) := by
    refine loop_up Y.length _ _ ?_ ?_
    · rintro j ρ m hj ⟨g1, g5, g6, bx, tk, rfl⟩ ih
      obtain ⟨y, hy⟩ := get_some hj
      have hix : indexAddrOp none 1 (.slice xo 1 Z) (I j) = some (.eptr [y.v rowP] 0) := ix_sl (by rw [hZ, List.getElem?_map, hy]; rfl)
      rw [drop_get hy, List.map_cons, List.any_cons, List.length_map]
      have hdn : decide ((y.l.length : Int) = (rq.length : Int)) = decide (y.l.length = rq.length) := dec_nat _ _
      have hw1 := wrap_succ hj (show (Y.length : Int) < _ by omega)
      cases hd : decide (y.l.length = rq.length) with
      | true => 
        rw [hd] at hdn
        simp (maxSteps := 1000000) only [go_sem, b_r_Together_l0, g1, g5, g6, hZl, lt_dec hj, hix, hdn, Bool.true_or, Nat.reduceEqDiff, ↓reduceIte]
      | false =>
        rw [hd] at hdn
        simp (maxSteps := 1000000) only [go_sem, b_r_Together_l0, g1, g5, g6, hZl, lt_dec hj, hix, hdn, hw1, Nat.reduceEqDiff, ↓reduceIte]
        refine (ih _ _ ?_).trans ?_
        · exact ⟨g1, g5, rfl, bx, tk, rfl⟩
        · rw [Bool.false_or]
    · rintro ρ m ⟨g1, g5, g6, bx, tk, rfl⟩
      simp (maxSteps := 1000000) only [go_sem, b_r_Together_l0, b_r_Together_r0, g5, g6, hZl, ge_dec, Nat.reduceEqDiff, ↓reduceIte]
      rw [List.drop_length]; rfl
  have hc0 : callL AP (.fn 35) [.agg [I w.slots, .slice w.as.o w.as.e (w.as.l.map rowA), .slice w.rs.o w.rs.e (w.rs.l.map rowR)], .slice .nilS 0 [], I 0, .slice o e (rq.map rowI)] (s.push ⟨[[I w.slots, .slice w.as.o w.as.e (w.as.l.map rowA), .slice w.rs.o w.rs.e (w.rs.l.map rowR)]], []⟩) = some (.slice xo 1 Z, s.push ⟨[[I w.slots, .slice w.as.o w.as.e (w.as.l.map rowA), .slice w.rs.o w.rs.e (w.rs.l.map rowR)]], tk'⟩) := by
    rw [hZ]; exact hc
  rw [callL_go (show AP 14 = some c_r_Together from rfl) rfl]
  simp (maxSteps := 1000000) only [go_sem, b_r_Together, hc0, Nat.reduceEqDiff, Nat.reduceAdd, ↓reduceIte]
  refine key 0 _ _ (Nat.zero_le _) ?_
  exact ⟨rfl, rfl, rfl, _, _, rfl⟩
end
end Go.Ax.Sx.Sc

namespace Go.Ax.Sx.Sc
open Go.Ax
set_option linter.unusedSimpArgs false
set_option linter.unusedVariables false
set_option maxRecDepth 100000

theorem asc_sub : ∀ {b a : List Int}, a.Pairwise (· < ·) → b.Pairwise (· < ·) → (∀ x ∈ a, x ∈ b) → a.Sublist b
  | [], a, _, _, h => by
    cases a with
    | nil => exact .slnil
    | cons x a => exact absurd (h x (by simp)) (by simp)
  | y :: b, [], _, _, _ => List.nil_sublist _
  | y :: b, x :: a, ha, hb, h => by
    have h1 := List.pairwise_cons.1 ha
    have h2 := List.pairwise_cons.1 hb
    by_cases e : x = y
    · subst e
      refine (asc_sub h1.2 h2.2 fun z hz => ?_).cons_cons x
      rcases List.mem_cons.1 (h z (List.mem_cons_of_mem _ hz)) with e | e
      · subst e; have := h1.1 z hz; omega
      · exact e
    · refine (asc_sub ha h2.2 fun z hz => ?_).cons y
      rcases List.mem_cons.1 (h z hz) with e2 | e2
      · subst e2
        rcases List.mem_cons.1 hz with e3 | e3
        · exact absurd (Eq.symm e3) e
        · have h3 := h1.1 z e3
          rcases List.mem_cons.1 (h x (by simp)) with e4 | e4
          · omega
          · have := h2.1 x e4; omega
      · exact e2

section
variable {s : Sig} {w : W}

theorem mems_mask (hw : Wk w) {rq : List Int} (ha : rq.Pairwise (· < ·)) (hin : ∀ i ∈ rq, 0 ≤ i ∧ i < w.rs.l.length) : mems (maskO rq) = rq := by
  have hrl := hw.v.rl
  have hlt : maskO rq < 2 ^ 62 := Nat.lt_of_lt_of_le (maskO_lt hin) (Nat.pow_le_pow_right (by decide) (by omega))
  refine asc_eq mems_asc ha fun x => ?_
  rw [mems_iff hlt]
  unfold maskO
  rw [maskO_bit, Nat.zero_testBit, Bool.false_or, List.any_eq_true]
  constructor
  · rintro ⟨h0, i, hi, he⟩
    have h1 := of_decide_eq_true he
    have h2 := hin i hi
    rw [show x = i by omega]; exact hi
  · intro hx
    exact ⟨(hin x hx).1, x, hx, by simp⟩

/-- Requests can be granted together if a plan has just them. -/
theorem tog_eq (hw : Wk w) {rq : List Int} (ha : rq.Pairwise (· < ·)) (hin : ∀ i ∈ rq, 0 ≤ i ∧ i < w.rs.l.length) :
    ((pls w rq 0 w.rs.l.length []).any fun x => decide (x.length = rq.length)) = fitsB w (freeC w) [] (maskO rq) := by
  have hiff := fun X => pls_iff (X := X) hw (rq := rq) (k := w.rs.l.length) (i := 0) (by omega) VP.nil (fun p hp => absurd hp (by simp))
  have hmm := mems_mask hw ha hin
  apply Bool.eq_iff_iff.2
  rw [List.any_eq_true]
  constructor
  · rintro ⟨X, hX, hl⟩
    have hl := of_decide_eq_true hl
    rw [hiff] at hX
    obtain ⟨hv, t, hXt, ht⟩ := hX
    have hXt : X = t := hXt
    subst hXt
    have hsub : (X.map (·.req)).Sublist rq := asc_sub (by rw [List.pairwise_map]; exact hv.asc) ha fun x hx => by
      obtain ⟨p, hp, rfl⟩ := List.mem_map.1 hx
      exact (ht p hp).2
    have he : X.map (·.req) = rq := hsub.eq_of_length (by rw [List.length_map]; exact hl)
    have hown : ownM X = maskO rq := by
      apply Nat.eq_of_testBit_eq
      intro i
      unfold maskO
      rw [ownM_bit, maskO_bit, Nat.zero_testBit, Bool.false_or, ← he, List.any_map]; rfl
    rw [← hown]
    exact fits_of_plan hw (pl := []) (rest := X) hv
  · intro hf
    obtain ⟨rest, hv, ho, _⟩ := plan_of_fits hw (pl := []) (k := 0) VP.nil (fun p hp => absurd hp (by simp)) (maskO_lt hin) (fun i hi => absurd hi (Nat.not_lt_zero _)) hf
    have hr := hv.reqs hw
    rw [ho, hmm] at hr
    refine ⟨[] ++ rest, ?_, by rw [hr, List.length_map]; simp⟩
    rw [hiff]
    refine ⟨hv, rest, rfl, fun p hp => ?_⟩
    refine ⟨by have := (hv.mem p (by simpa using hp)).1; omega, ?_⟩
    rw [hr]; exact List.mem_map.2 ⟨p, by simpa using hp, rfl⟩

theorem rqs_asc {n : Nat} : (rqs n).Pairwise (· < ·) := by
  rw [List.pairwise_map]
  exact List.pairwise_lt_range.imp fun h => by omega
theorem rqs_in {n : Nat} : ∀ i ∈ rqs n, 0 ≤ i ∧ i < n := fun i hi => by
  obtain ⟨k, hk, rfl⟩ := List.mem_map.1 hi
  have := List.mem_range.1 hk
  omega
theorem rqs_len {n : Nat} : (rqs n).length = n := by rw [List.length_map, List.length_range]

theorem mems_full {n : Nat} (hn : n ≤ 60) : mems (2 ^ n - 1) = rqs n := by
  have hlt : 2 ^ n - 1 < 2 ^ 62 := by
    have : (2 : Nat) ^ n ≤ 2 ^ 60 := Nat.pow_le_pow_right (by decide) hn
    omega
  refine asc_eq mems_asc rqs_asc fun x => ?_
  rw [mems_iff hlt, Nat.testBit_two_pow_sub_one]
  constructor
  · rintro ⟨h0, h1⟩
    have h1 := of_decide_eq_true h1
    exact List.mem_map.2 ⟨x.toNat, List.mem_range.2 h1, by omega⟩
  · intro hx
    have := rqs_in x hx
    exact ⟨this.1, by simp; omega⟩

/-- The first set of requests, of a size on, that cannot be granted together. -/
def minF (w : W) : Nat → Nat → Option (List Int)
  | _, 0 => none
  | c, n + 1 => match (grps c (rqs w.rs.l.length)).find? fun g => !fitsB w (freeC w) [] (maskO g) with
    | some g => some g
    | none => minF w (c + 1) n
def minC (w : W) : Option (List Int) := minF w 1 w.rs.l.length

theorem grp_in {n c : Nat} {g : List Int} (h : g ∈ grps c (rqs n)) : g.Pairwise (· < ·) ∧ ∀ i ∈ g, 0 ≤ i ∧ i < n := by
  have hs := grps_mem h
  exact ⟨rqs_asc.sublist hs, fun i hi => rqs_in i (hs.subset hi)⟩

/-- what the reference returns -/
def minR (n : Option (List Int)) : AV := .tuple [match n with | some g => (stS g.length g).v rowI | none => .slice .nilS 0 [], B n.isSome]

theorem r_MinimumConflict (hs : Ok s) (hw : Wk w) (h6 : w.rs.l.length ≤ 6) (hN : plsN w 0 w.rs.l.length ≤ 4294967296) :
    callL AP (.fn 11) [w.v] s = some (minR (minC w), s) := by
  have hall : ∀ r, callL AP (.fn 33) [w.v] (s.push r) = some ((acS 1 (rqs w.rs.l.length)).v rowI, s.push r) := fun r => by rw [r_All (hs.push r) (by omega), acS_v]
  have hq1 : (rqs w.rs.l.length) = [] ∨ (acS 1 (rqs w.rs.l.length)).e = 1 := by
    cases rqs w.rs.l.length with
    | nil => exact .inl rfl
    | cons _ _ => exact .inr rfl
  have outer : ∀ (d c : Nat) ρ m, c + d = w.rs.l.length + 1 → 1 ≤ c → (ρ 1 = .ptr s.acts.length 0 0 ∧ ρ 4 = I c ∧ ∃ bx tk, m = s.push ⟨rowW w :: bx, tk⟩) →
      go AP f_r_MinimumConflict (.c (.loop b_r_MinimumConflict_l0) :: k_r_MinimumConflict_0) ⟨ρ, m⟩ = some (minR (minF w c d), s) := by
    intro d
    induction d with
    | zero =>
      rintro c ρ m hc hc1 ⟨g1, g4, bx, tk, rfl⟩
      have d1 : decide ((c : Int) ≤ (w.rs.l.length : Int)) = false := by simp; omega
      rw [go_loop]
      simp (maxSteps := 1000000) only [go_sem, b_r_MinimumConflict_l0, b_r_MinimumConflict_r0, g1, g4, d1, Nat.reduceEqDiff, Nat.reduceAdd, ↓reduceIte]
      rfl
    | succ d ih =>
      rintro c ρ m hc hc1 ⟨g1, g4, bx, tk, rfl⟩
      obtain ⟨n, rfl⟩ : ∃ n, c = n + 1 := ⟨c - 1, by omega⟩
      have d1 : decide (((n + 1 : Nat) : Int) ≤ (w.rs.l.length : Int)) = true := by simp; omega
      have hch : ∀ r, callL AP (.fn 32) [(acS 1 (rqs w.rs.l.length)).v rowI, I ((n + 1 : Nat) : Int)] (s.push r) = some (chV (n + 1) (rqs w.rs.l.length), s.push r) := fun r => by
        have := r_choices (n + 1) (s := s.push r) (l := rqs w.rs.l.length) (o := (acS 1 (rqs w.rs.l.length)).o) (e := (acS 1 (rqs w.rs.l.length)).e) (hs.push r) hq1 (by rw [rqs_len]; omega) (by omega)
        rw [show (acS 1 (rqs w.rs.l.length)).v rowI = .slice (acS 1 (rqs w.rs.l.length)).o (acS 1 (rqs w.rs.l.length)).e ((rqs w.rs.l.length).map rowI) by simp only [Sl.v, acS_l]]
        exact this
      have hln : lenOp false (chV (n + 1) (rqs w.rs.l.length)) = some (I (grps (n + 1) (rqs w.rs.l.length)).length) := chV_len
      have hgc := grps_count (k := n + 1) (l := rqs w.rs.l.length)
      have hgc2 : (grps (n + 1) (rqs w.rs.l.length)).length ≤ 64 := by
        refine Nat.le_trans hgc ?_
        rw [rqs_len]
        exact (Nat.pow_le_pow_right (by decide) h6 : 2 ^ w.rs.l.length ≤ 2 ^ 6)
      have inner : ∀ (j : Nat) ρ m, j ≤ (grps (n + 1) (rqs w.rs.l.length)).length → (ρ 1 = .ptr s.acts.length 0 0 ∧ ρ 4 = I ((n + 1 : Nat) : Int) ∧ ρ 5 = chV (n + 1) (rqs w.rs.l.length) ∧ ρ 6 = I j ∧ ∃ bx tk, m = s.push ⟨rowW w :: bx, tk⟩) →
          go AP f_r_MinimumConflict (.c (.loop b_r_MinimumConflict_l1) :: k_r_MinimumConflict_1) ⟨ρ, m⟩ = some (minR (match ((grps (n + 1) (rqs w.rs.l.length)).drop j).find? fun g => !fitsB w (freeC w) [] (maskO g) with | some g => some g | none => minF w (n + 1 + 1) d), s) := by
        refine loop_up (grps (n + 1) (rqs w.rs.l.length)).length _ _ ?_ ?_
        · rintro j ρ m hj ⟨g1, g4, g5, g6, bx, tk, rfl⟩ ih2
          obtain ⟨g, hg⟩ := get_some hj
          have hgm := List.mem_of_getElem? hg
          have hgl := grps_len hgm
          obtain ⟨ga, gin⟩ := grp_in hgm
          have hix := chV_ixS hg
          have htg : ∀ r, callL AP (.fn 14) [w.v, (stS (n + 1) g).v rowI] (s.push r) = some (B (fitsB w (freeC w) [] (maskO g)), s.push r) := fun r => by
            rw [← tog_eq hw ga gin]
            exact r_Together (rq := g) (o := (stS (n + 1) g).o) (e := 1) (hs.push r) hw (.inr rfl) (by omega) hN
          have hlv := fun m : Sig => Sl.leave (f := rowI) (m := m) (stS_ok (n := n + 1) (g := g))
          have hwj := wrap_succ hj (show ((grps (n + 1) (rqs w.rs.l.length)).length : Int) < _ by omega)
          rw [find_drop hg]
          simp only [W.v, rowW, Sl.v] at htg hix hlv
          cases hf : fitsB w (freeC w) [] (maskO g) with
          | false =>
            rw [hf] at htg
            simp (maxSteps := 1000000) only [go_sem, b_r_MinimumConflict_l1, g1, g5, g6, hln, lt_dec hj, hix, htg, hlv, Bool.not_false, Nat.reduceEqDiff, ↓reduceIte]
            show _ = some (minR (some g), s)
            unfold minR
            simp only [hgl]; rfl
          | true =>
            rw [hf] at htg
            simp (maxSteps := 1000000) only [go_sem, b_r_MinimumConflict_l1, g1, g5, g6, hln, lt_dec hj, hix, htg, hwj, Bool.not_true, Nat.reduceEqDiff, reduceCtorEq, ↓reduceIte]
            refine ih2 _ _ ?_
            exact ⟨g1, g4, g5, rfl, bx, tk, rfl⟩
        · rintro ρ m ⟨g1, g4, g5, g6, bx, tk, rfl⟩
          have w1 : IntKind.i64.wrap (((n + 1 : Nat) : Int) + 1) = ((n + 1 + 1 : Nat) : Int) := by rw [wrap_id (by omega) (by omega)]; omega
          rw [List.drop_length]
          simp (maxSteps := 1000000) only [go_sem, b_r_MinimumConflict_l1, b_r_MinimumConflict_r1, g4, g5, g6, hln, ge_dec, w1, Nat.reduceEqDiff, ↓reduceIte]
          refine ih (n + 1 + 1) _ _ (by omega) (by omega) ?_
          exact ⟨g1, rfl, bx, tk, rfl⟩
      rw [go_loop]
      simp only [W.v, rowW, Sl.v] at hall hch
      simp (maxSteps := 1000000) only [go_sem, b_r_MinimumConflict_l0, g1, g4, d1, hall, hch, Nat.reduceEqDiff, Nat.reduceAdd, ↓reduceIte]
      refine (inner 0 _ _ (Nat.zero_le _) ?_).trans ?_
      · exact ⟨g1, g4, rfl, rfl, bx, tk, rfl⟩
      · rw [List.drop_zero]; rfl
  rw [callL_go (show AP 11 = some c_r_MinimumConflict from rfl) rfl]
  simp (maxSteps := 1000000) only [go_sem, b_r_MinimumConflict, Nat.reduceAdd]
  refine outer w.rs.l.length 1 _ _ (by omega) (by omega) ?_
  exact ⟨rfl, rfl, [], [], rfl⟩
end
end Go.Ax.Sx.Sc

namespace Go.Ax.Sx.Sc
open Go.Ax
set_option linter.unusedSimpArgs false
set_option linter.unusedVariables false
set_option maxRecDepth 100000

section
variable {s : Sig} {w : W}

abbrev minL (ρ : Nat → AV) : ALoop := ⟨true, none, ρ, [38], b_s_MinimumConflict_a2, b_s_MinimumConflict_y1⟩
abbrev minBx (w : W) (x : AV) : List (List AV) := [rowW w, [x], [I 0], [OW w, .slice (acS 2 (freeC w)).o (acS 2 (freeC w)).e ((freeC w).map rowC)]]

theorem min_round {X T : Rec → Sig} {l d : Nat} {ρ : Nat → AV} {tk : List (Option Nat)} {g : List Int} (hM : Mid X d) (hX : ∀ r, busy l (T r) = X r) (hR : ∀ r, Ready l (minL ρ) (T r)) (hok : ∀ r, Ok (T r)) (hw : Wk w)
    (hg : ∀ i ∈ g, 0 ≤ i ∧ i < w.rs.l.length) (hg0 : g ≠ []) (hgl : g.length ≤ 100) (h2 : ρ 2 = .ptr d 1 0) (h3 : ρ 3 = .ptr d 2 0) (h6 : ρ 6 = .ptr d 3 0) :
    callL AP (.yield l) [accV 1 (g.map rowI)] (T ⟨minBx w (.slice .nilS 0 []), tk⟩) = if fitsB w (freeC w) [] (maskO g) = true then some (.v (.bool true), T ⟨minBx w (.slice .nilS 0 []), tk⟩) else some (.v (.bool false), over l .ret (T ⟨minBx w (accV 1 (g.map rowI)), tk⟩)) := by
  have hrl := hw.v.rl
  have hacc : accV 1 (g.map rowI) = .slice .any 1 (g.map rowI) := by cases g with | nil => exact absurd rfl hg0 | cons _ _ => rfl
  rw [hacc]
  have hokX : ∀ r, Ok (X r) := fun r => by rw [← hX]; exact (hok r).busy
  have hTX : ∀ r, (T r).acts.length = (X r).acts.length := fun r => by rw [← hX]; rfl
  have hfin : ∀ r ρ' q, finR l .normal ⟨ρ', (X r).push q⟩ = some (.v (.bool true), T r) := fun r ρ' q => by rw [← hX]; exact finR_n (hR r)
  have hfr : ∀ r ρ' q, finR l .ret ⟨ρ', (X r).push q⟩ = some (.v (.bool false), over l .ret (T r)) := fun r ρ' q => by rw [← hX]; exact finR_r
  have k3 : ∀ x q, ((X ⟨minBx w x, tk⟩).push q).box d 3 = some [OW w, .slice (acS 2 (freeC w)).o (acS 2 (freeC w)).e ((freeC w).map rowC)] := fun x q => by rw [hM.box]; rfl
  have st1 : ∀ q, ((X ⟨minBx w (.slice .nilS 0 []), tk⟩).push q).store 1 (.ptr d 1 0) (.slice .any 1 (g.map rowI)) = some ((X ⟨minBx w (.slice .any 1 (g.map rowI)), tk⟩).push q) := fun q => hM.store (by rfl) (by rfl) (row := [.slice .nilS 0 []]) (by rfl) (by rfl)
  have st2 : ∀ q, ((X ⟨minBx w (.slice .any 1 (g.map rowI)), tk⟩).push q).store 1 (.ptr d 2 0) (I 0) = some ((X ⟨minBx w (.slice .any 1 (g.map rowI)), tk⟩).push q) := fun q => hM.store (by rfl) (by rfl) (row := [I 0]) (by rfl) (by rfl)
  have hft : ∀ r, callL AP (.fn 27) [CH w (acS 2 (freeC w)).o (acS 2 (freeC w)).e (freeC w), .slice .nilS 0 [], I ((maskO g : Nat) : Int)] ((X ⟨minBx w (.slice .nilS 0 []), tk⟩).push r) = some (B (fitsB w (freeC w) [] (maskO g)), (X ⟨minBx w (.slice .nilS 0 []), tk⟩).push r) := fun r =>
    c_fits (plan := []) (o2 := .nilS) (e2 := 0) ((hokX _).push r) hw (freeC_ok hw) (maskO_lt hg) (fun y hy => absurd hy (by simp)) (.inl rfl) (by simp)
  have key : ∀ (j : Nat) ρ' m, j ≤ g.length → (ρ' 2 = .ptr d 1 0 ∧ ρ' 3 = .ptr d 2 0 ∧ ρ' 6 = .ptr d 3 0 ∧ ρ' 9 = .slice .any 1 (g.map rowI) ∧ ρ' 10 = I ((maskO (g.take j) : Nat) : Int) ∧ ρ' 39 = .slice .any 1 (g.map rowI) ∧ ρ' 40 = I g.length ∧ ρ' 41 = I j ∧ m = (X ⟨minBx w (.slice .nilS 0 []), tk⟩).push ⟨[], []⟩) →
      go AP (finR l) (.c (.loop b_s_MinimumConflict_l2) :: k_s_MinimumConflict_2) ⟨ρ', m⟩ = if fitsB w (freeC w) [] (maskO g) = true then some (.v (.bool true), T ⟨minBx w (.slice .nilS 0 []), tk⟩) else some (.v (.bool false), over l .ret (T ⟨minBx w (.slice .any 1 (g.map rowI)), tk⟩)) := by
    refine loop_up g.length _ _ ?_ ?_
    · rintro j ρ' m hj ⟨g2, g3, g6, g9, g10, g39, g40, g41, rfl⟩ ih
      obtain ⟨a, ha⟩ := get_some hj
      have ham := hg a (List.mem_of_getElem? ha)
      have hr := ix_map (o := .any) (es := 1) (f := rowI) ha
      have hin : ∀ i ∈ g.take j, 0 ≤ i ∧ i < w.rs.l.length := fun i hi => hg i (List.mem_of_mem_take hi)
      have hm1 : maskO (g.take j) < 2 ^ 63 := lt63 (maskO_lt hin) (by omega)
      have hm2 : 2 ^ a.toNat < 2 ^ 63 := Nat.pow_lt_pow_right (by decide) (by omega)
      have hsh := ar_shln (k := a.toNat) (by omega)
      rw [show ((a.toNat : Nat) : Int) = a by omega] at hsh
      have hor := ar_or hm1 hm2
      have hwk1 := wrap_succ hj (show (g.length : Int) < _ by omega)
      simp (maxSteps := 1000000) only [go_sem, b_s_MinimumConflict_l2, g10, g39, g40, g41, lt_dec hj, hr, hsh, hor, hwk1, Nat.reduceEqDiff, ↓reduceIte]
      refine ih _ _ ?_
      exact ⟨g2, g3, g6, g9, by rw [take_get ha, maskO_snoc]; rfl, g39, g40, rfl, rfl⟩
    · rintro ρ' m ⟨g2, g3, g6, g9, g10, g39, g40, g41, rfl⟩
      rw [List.take_length] at g10
      simp only [OW, CH, minBx] at k3 hft st1 st2 hfin hfr hokX ⊢
      cases hf : fitsB w (freeC w) [] (maskO g) with
      | true =>
        rw [hf] at hft
        simp (maxSteps := 1000000) only [go_sem, b_s_MinimumConflict_l2, b_s_MinimumConflict_r2, g6, g10, g40, g41, ge_dec, k3, hft, Bool.not_true, hfin, Nat.reduceEqDiff, ↓reduceIte]
      | false =>
        rw [hf] at hft
        simp (maxSteps := 1000000) only [go_sem, b_s_MinimumConflict_l2, b_s_MinimumConflict_r2, g2, g3, g6, g9, g10, g40, g41, ge_dec, k3, hft, Bool.not_false, st1, st2, hfr, Nat.reduceEqDiff, reduceCtorEq, ↓reduceIte]
  rw [callL_round (hR _) rfl]
  simp (maxSteps := 1000000) only [go_sem, b_s_MinimumConflict_a2, finA_n (hR _), setParams_1, ↓reduceIte]
  simp (maxSteps := 1000000) only [go_sem, b_s_MinimumConflict_y1, hX, Nat.reduceEqDiff, ↓reduceIte]
  refine key 0 _ _ (Nat.zero_le _) ?_
  exact ⟨h2, h3, h6, rfl, rfl, rfl, rfl, rfl, rfl⟩

theorem Ends.none_stops {α ι : Type} {I : List α → ι → Prop} {st : α → Bool} {O : List α → α → ι → Prop} {i : ι} : ∀ {xs done : List α}, Ends I (fun _ x => st x) O done xs true i → xs.find? st = none
  | [], _, _ => rfl
  | x :: r, done, h => by
    simp only [Ends] at h
    cases hs : st x with
    | true => rw [if_pos hs] at h; exact absurd h.1 (by decide)
    | false =>
      rw [if_neg (by rw [hs]; decide)] at h
      rw [List.find?_cons, hs]
      exact Ends.none_stops h
theorem Ends.find {α ι : Type} {I : List α → ι → Prop} {st : α → Bool} {O : List α → α → ι → Prop} {i : ι} : ∀ {xs done : List α}, Ends I (fun _ x => st x) O done xs false i → ∃ x dn, xs.find? st = some x ∧ O dn x i
  | [], _, h => absurd h.1 (by decide)
  | x :: r, done, h => by
    simp only [Ends] at h
    cases hs : st x with
    | true => rw [if_pos hs] at h; exact ⟨x, done, by rw [List.find?_cons, hs], h.2⟩
    | false =>
      rw [if_neg (by rw [hs]; decide)] at h
      rw [List.find?_cons, hs]
      exact Ends.find h

def minX : Option (List Int) → AV
  | none => .slice .nilS 0 []
  | some g => accV 1 (g.map rowI)
def minP : Option (List Int) → Option AExit
  | none => none
  | some _ => some .ret
abbrev minB (s : Sig) (w : W) (ρ : Nat → AV) (j : Option (List Int)) : Sig := enterLoop (s.push ⟨minBx w (minX j), []⟩) ⟨j.isNone, minP j, ρ, [38], b_s_MinimumConflict_a2, b_s_MinimumConflict_y1⟩

theorem min_hand {ρ : Nat → AV} (hs : Ok s) (hw : Wk w) (h2 : ρ 2 = .ptr s.acts.length 1 0) (h3 : ρ 3 = .ptr s.acts.length 2 0) (h6 : ρ 6 = .ptr s.acts.length 3 0) :
    Hand AP s.loops.length (fun g => accV 1 (g.map rowI)) (minB s w ρ) (fun _ j => j = none) (fun _ g => !fitsB w (freeC w) [] (maskO g)) (fun _ g j => j = some g)
      (fun g => g ≠ [] ∧ g.length ≤ 100 ∧ ∀ i ∈ g, 0 ≤ i ∧ i < w.rs.l.length) (s.acts.length + 1) (s.loops.length + 1) 100000 := by
  have main : ∀ (g : List Int) (B : List Rec) (ls : List ALoop), g ≠ [] ∧ g.length ≤ 100 ∧ (∀ i ∈ g, 0 ≤ i ∧ i < w.rs.l.length) →
      callL AP (.yield s.loops.length) [accV 1 (g.map rowI)] (up (minB s w ρ none) B ls) = if fitsB w (freeC w) [] (maskO g) = true then some (.v (.bool true), up (minB s w ρ none) B ls) else some (.v (.bool false), up (minB s w ρ (some g)) B ls) := by
    rintro g B ls ⟨hg0, hgl, hg⟩
    have hM : Mid (fun r => up (busy s.loops.length (enterLoop (s.push r) (minL ρ))) B ls) s.acts.length := mid_loop hs
    have hX : ∀ r, busy s.loops.length (up (enterLoop (s.push r) (minL ρ)) B ls) = (fun r => up (busy s.loops.length (enterLoop (s.push r) (minL ρ))) B ls) r := fun r => up_busy (by simp [enterLoop, Sig.push])
    have h := min_round (T := fun r => up (enterLoop (s.push r) (minL ρ)) B ls) (tk := []) (g := g) hM hX (fun r => up_ready (enter_ready (hs.push r))) (fun r => ((hs.push _).enter).up) hw hg hg0 hgl h2 h3 h6
    refine h.trans ?_
    have hov : over s.loops.length .ret (up (enterLoop (s.push ⟨minBx w (accV 1 (g.map rowI)), []⟩) (minL ρ)) B ls) = up (minB s w ρ (some g)) B ls := by
      rw [up_over (by simp [enterLoop, Sig.push])]
      congr 1
      exact over_enter (m := s.push _)
    rw [hov]; rfl
  refine ⟨fun j => (hs.push _).enter, fun j => by simp [minB, enterLoop, Sig.push], fun j => by simp [minB, enterLoop, Sig.push], ?_, ?_⟩
  · rintro done g j B ls _ rfl hX hst
    refine ⟨none, ?_, rfl⟩
    rw [main g B ls hX, if_pos (by simpa using hst)]
  · rintro done g j B ls _ rfl hX hst
    refine ⟨some g, ?_, rfl⟩
    rw [main g B ls hX, if_neg (by simpa using hst)]

theorem min_range {F : AExit → St → Option (AV × Sig)} {ks : List K} {ρ : Nat → AV} {c : Nat} (hs : Ok s) (hw : Wk w) (hc : 1 ≤ c) (hc2 : c ≤ 100) (h2 : ρ 2 = .ptr s.acts.length 1 0) (h3 : ρ 3 = .ptr s.acts.length 2 0) (h6 : ρ 6 = .ptr s.acts.length 3 0)
    (h37 : ρ 37 = .fn 50 [] [.eptr [I c] 0, .eptr [(acS 1 (rqs w.rs.l.length)).v rowI] 0]) :
    (∃ g, ((grps c (rqs w.rs.l.length)).find? fun g => !fitsB w (freeC w) [] (maskO g)) = some g ∧ go AP F (.c (.rangeFunc (.tmp 37) [38] b_s_MinimumConflict_a2 b_s_MinimumConflict_y1) :: ks) ⟨ρ, s.push ⟨minBx w (.slice .nilS 0 []), []⟩⟩ = F .ret ⟨ρ, s.push ⟨minBx w (accV 1 (g.map rowI)), []⟩⟩) ∨
    (((grps c (rqs w.rs.l.length)).find? fun g => !fitsB w (freeC w) [] (maskO g)) = none ∧ go AP F (.c (.rangeFunc (.tmp 37) [38] b_s_MinimumConflict_a2 b_s_MinimumConflict_y1) :: ks) ⟨ρ, s.push ⟨minBx w (.slice .nilS 0 []), []⟩⟩ = go AP F ks ⟨ρ, s.push ⟨minBx w (.slice .nilS 0 []), []⟩⟩) := by
  have hrl := hw.v.rl
  have hq1 : (rqs w.rs.l.length) = [] ∨ (acS 1 (rqs w.rs.l.length)).e = 1 := by
    cases rqs w.rs.l.length with
    | nil => exact .inl rfl
    | cons _ _ => exact .inr rfl
  have hgc := grps_count (k := c) (l := rqs w.rs.l.length)
  have hgc2 : (grps c (rqs w.rs.l.length)).length ≤ 2 ^ 12 := by
    refine Nat.le_trans hgc ?_
    rw [rqs_len]
    exact Nat.pow_le_pow_right (by decide) (by omega)
  obtain ⟨b, j, hcl, hE⟩ := groups_calls (min_hand hs hw h2 h3 h6) (cnt := c) (by omega) (l := rqs w.rs.l.length) (o := (acS 1 (rqs w.rs.l.length)).o) (e := (acS 1 (rqs w.rs.l.length)).e) (i := none) (done := []) hq1 (by rw [rqs_len]; omega) (by simp; omega) rfl (fun g hg => by
    have hl := grps_len hg
    refine ⟨fun e => by rw [e] at hl; simp at hl; omega, by omega, (grp_in hg).2⟩)
  have hv : (acS 1 (rqs w.rs.l.length)).v rowI = .slice (acS 1 (rqs w.rs.l.length)).o (acS 1 (rqs w.rs.l.length)).e ((rqs w.rs.l.length).map rowI) := by simp only [Sl.v, acS_l]
  rw [go_range (x := .tmp 37) h37, hv]
  cases b with
  | true =>
    have hn := Ends.none_stops (st := fun g => !fitsB w (freeC w) [] (maskO g)) hE
    have hj : j = none := hE.all
    subst hj
    refine .inr ⟨hn, (congrArg (Option.bind · _) hcl).trans ?_⟩
    simp only [Option.bind_some]
    exact goL_normal (m := s.push ⟨minBx w (.slice .nilS 0 []), []⟩) (lp := minL ρ) rfl rfl rfl
  | false =>
    obtain ⟨g, dn, hf, hO⟩ := Ends.find (st := fun g => !fitsB w (freeC w) [] (maskO g)) hE
    have hj : j = some g := hO
    subst hj
    refine .inl ⟨g, hf, (congrArg (Option.bind · _) hcl).trans ?_⟩
    simp only [Option.bind_some]
    exact goL_ret (m := s.push ⟨minBx w (accV 1 (g.map rowI)), []⟩) (lp := ⟨false, some .ret, ρ, [38], b_s_MinimumConflict_a2, b_s_MinimumConflict_y1⟩) rfl rfl

theorem minF_some {c d : Nat} {g : List Int} (h : ((grps c (rqs w.rs.l.length)).find? fun g => !fitsB w (freeC w) [] (maskO g)) = some g) : minF w c (d + 1) = some g := by simp only [minF, h]
theorem minF_none {c d : Nat} (h : ((grps c (rqs w.rs.l.length)).find? fun g => !fitsB w (freeC w) [] (maskO g)) = none) : minF w c (d + 1) = minF w (c + 1) d := by simp only [minF, h]

/-- what the program returns -/
def minV (w : W) : AV := .tuple [accV 1 ((if smallE w = 0 then (minC w).getD [] else []).map rowI), I (if smallE w = 0 then (if (minC w).isSome = true then 0 else 12) else smallE w)]

theorem s_MinimumConflict (hs : Ok s) (hw : w.Ok) (hf : w.Few) : callL AP (.fn 9) [w.v] s = some (minV w, s) := by
  have ho : ∀ r, callL AP (.fn 22) [w.v] (s.push r) = some (.tuple [if (weekE w).2.2 = 0 then OW w else NP, I (smallE w)], s.push r) := fun r => s_openSmall (hs.push r) hw hf
  simp only [W.v, rowW, Sl.v] at ho
  unfold minV
  by_cases h0 : smallE w = 0
  · have hwe := smallE_ok h0
    have hwk : Wk w := ⟨hw, hf, weekE_ok hwe⟩
    have hrl := hwk.v.rl
    rw [if_pos hwe, h0] at ho
    have hfr : ∀ r, callL AP (.fn 26) [OW w] (s.push r) = some (CH w (acS 2 (freeC w)).o (acS 2 (freeC w)).e (freeC w), s.push r) := fun r => by
      rw [w_free (hs.push r) hwk, acS_v]; simp only [Sl.v, acS_l]
    have hme : ∀ r, callL AP (.fn 29) [I ((2 ^ w.rs.l.length - 1 : Nat) : Int)] (s.push r) = some ((acS 1 (rqs w.rs.l.length)).v rowI, s.push r) := fun r => by
      rw [s_members (by have : (2 : Nat) ^ w.rs.l.length ≤ 2 ^ 12 := Nat.pow_le_pow_right (by decide) hrl
                        omega) (hs.push r), mems_full (by omega), acS_v]
    have hsh := ar_shln (k := w.rs.l.length) (by omega)
    have hsub : IntKind.i64.wrap (((2 ^ w.rs.l.length : Nat) : Int) - 1) = ((2 ^ w.rs.l.length - 1 : Nat) : Int) := by
      have h1 : (2 : Nat) ^ w.rs.l.length ≤ 2 ^ 12 := Nat.pow_le_pow_right (by decide) hrl
      have h2 : 1 ≤ (2 : Nat) ^ w.rs.l.length := Nat.one_le_two_pow
      generalize (2 : Nat) ^ w.rs.l.length = q at *
      rw [wrap_id (by omega) (by omega)]; omega
    simp only [h0, if_true]
    have outer : ∀ (d c : Nat) ρ m, c + d = w.rs.l.length + 1 → 1 ≤ c → (ρ 2 = .ptr s.acts.length 1 0 ∧ ρ 3 = .ptr s.acts.length 2 0 ∧ ρ 6 = .ptr s.acts.length 3 0 ∧ ρ 7 = (acS 1 (rqs w.rs.l.length)).v rowI ∧ ρ 8 = I c ∧ m = s.push ⟨minBx w (.slice .nilS 0 []), []⟩) →
        go AP f_s_MinimumConflict (.c (.loop b_s_MinimumConflict_l0) :: k_s_MinimumConflict_0) ⟨ρ, m⟩ = some (.tuple [accV 1 (((minF w c d).getD []).map rowI), I (if (minF w c d).isSome = true then 0 else 12)], s) := by
      intro d
      induction d with
      | zero =>
        rintro c ρ m hc hc1 ⟨g2, g3, g6, g7, g8, rfl⟩
        have hl : (acS 1 (rqs w.rs.l.length)).l.length = w.rs.l.length := by rw [acS_l, rqs_len]
        have d1 : decide ((c : Int) ≤ (w.rs.l.length : Int)) = false := by simp; omega
        rw [go_loop]
        simp only [Sl.v, minBx] at g7 ⊢
        simp (maxSteps := 1000000) only [go_sem, b_s_MinimumConflict_l0, b_s_MinimumConflict_r0, g2, g3, g7, g8, hs, hl, d1, Nat.reduceEqDiff, ↓reduceIte]
        rfl
      | succ d ih =>
        rintro c ρ m hc hc1 ⟨g2, g3, g6, g7, g8, rfl⟩
        have hl : (acS 1 (rqs w.rs.l.length)).l.length = w.rs.l.length := by rw [acS_l, rqs_len]
        have d1 : decide ((c : Int) ≤ (w.rs.l.length : Int)) = true := by simp; omega
        have w1 : IntKind.i64.wrap ((c : Int) + 1) = ((c + 1 : Nat) : Int) := by rw [wrap_id (by omega) (by omega)]; omega
        have hsg : ∀ r, callL AP (.fn 30) [(acS 1 (rqs w.rs.l.length)).v rowI, I (c : Int)] (s.push r) = some (.fn 50 [] [.eptr [I c] 0, .eptr [(acS 1 (rqs w.rs.l.length)).v rowI] 0], s.push r) := fun r => s_groups (Sl.close (n := 1) acS_ok) (hs.push r)
        have hrng := fun ρ' h2 h3 h6 h37 => min_range (s := s) (w := w) (F := f_s_MinimumConflict) (ks := k_s_MinimumConflict_1) (ρ := ρ') (c := c) hs hwk hc1 (by omega) h2 h3 h6 h37
        have hrest : ∀ ρ' : Nat → AV, ρ' 2 = .ptr s.acts.length 1 0 → ρ' 3 = .ptr s.acts.length 2 0 → ρ' 6 = .ptr s.acts.length 3 0 → ρ' 7 = (acS 1 (rqs w.rs.l.length)).v rowI → ρ' 8 = I c → ρ' 37 = .fn 50 [] [.eptr [I c] 0, .eptr [(acS 1 (rqs w.rs.l.length)).v rowI] 0] →
            go AP f_s_MinimumConflict (.c (.rangeFunc (.tmp 37) [38] b_s_MinimumConflict_a2 b_s_MinimumConflict_y1) :: k_s_MinimumConflict_1) ⟨ρ', s.push ⟨minBx w (.slice .nilS 0 []), []⟩⟩ = some (.tuple [accV 1 (((minF w c (d + 1)).getD []).map rowI), I (if (minF w c (d + 1)).isSome = true then 0 else 12)], s) := by
          intro ρ' g2 g3 g6 g7 g8 g37
          rcases hrng ρ' g2 g3 g6 g37 with ⟨g, hfd, hgo⟩ | ⟨hfd, hgo⟩
          · rw [hgo, minF_some hfd]
            have hlv := fun m : Sig => leavec_acc (es := 1) (xs := g.map rowI) (m := m)
            have hlv2 := fun m : Sig => leave_acc (es := 1) (xs := g.map rowI) (m := m)
            simp only [Option.getD_some, Option.isSome_some, minBx]
            obtain ⟨z, hz⟩ : ∃ z, accV 1 (g.map rowI) = z := ⟨_, rfl⟩
            simp only [hz] at hlv hlv2 ⊢
            simp (maxSteps := 1000000) only [go_sem, g2, g3, hlv2, ↓reduceIte]
          · rw [hgo, minF_none hfd]
            simp (maxSteps := 1000000) only [go_sem, b_s_MinimumConflict_r1, g8, w1, ↓reduceIte]
            refine ih (c + 1) _ _ (by omega) (by omega) ?_
            exact ⟨g2, g3, g6, g7, rfl, rfl⟩
        rw [go_loop]
        simp only [Sl.v, minBx] at g7 hsg hrest ⊢
        simp (maxSteps := 1000000) only [go_sem, b_s_MinimumConflict_l0, g7, g8, hl, d1, hsg, Nat.reduceEqDiff, ↓reduceIte]
        exact hrest _ g2 g3 g6 g7 g8 rfl
    rw [callL_go (show AP 9 = some c_s_MinimumConflict from rfl) rfl]
    simp only [OW, CH, Sl.v] at ho hfr hme
    simp (maxSteps := 1000000) only [go_sem, b_s_MinimumConflict, hs, ho, hfr, hme, hsh, hsub, ne_eq, not_true, Nat.reduceEqDiff, Nat.reduceAdd, ↓reduceIte]
    refine outer w.rs.l.length 1 _ _ (by omega) (by omega) ?_
    exact ⟨rfl, rfl, rfl, rfl, rfl, rfl⟩
  · rw [callL_go (show AP 9 = some c_s_MinimumConflict from rfl) rfl]
    simp only [h0, if_false]
    simp (maxSteps := 1000000) only [go_sem, b_s_MinimumConflict, hs, ho, ne_eq, h0, not_false_iff, Nat.reduceEqDiff, Nat.reduceAdd, ↓reduceIte]
    rfl
end
end Go.Ax.Sx.Sc
