/-
  What a shape says, type by type.
-/
import Derived.Test.YtfmojojicndbcaaOpB
import Derived.Test.YtfmojojicndbcaaSxD
namespace Go.Ax.Sx

section
variable {P : Program} {d : Nat} {t : TypeId} {avs : List AV}

theorem shp_int (hu : P.underlying t = some (.int .i64)) (h : Shp P (d + 1) t avs) : ∃ x, avs = [I x] ∧ inI x := by
  simp only [Shp, hu] at h
  obtain ⟨x, rfl, hw⟩ := h
  refine ⟨x, rfl, ?_⟩
  simp only [Lit.wf, Bool.and_eq_true, decide_eq_true_eq] at hw
  have h1 : IntKind.i64.min = -9223372036854775808 := by decide
  have h2 : IntKind.i64.max = 9223372036854775807 := by decide
  unfold inI; omega
theorem shp_str (hu : P.underlying t = some .string) (h : Shp P (d + 1) t avs) : ∃ x : ByteArray, avs = [.v (.string x)] ∧ x.size ≤ maxLen := by
  simp only [Shp, hu] at h; exact h
theorem shp_struct {fs : Array Field} (hu : P.underlying t = some (.struct fs)) (h : Shp P (d + 1) t avs) : ∃ ps : List (List AV), avs = ps.flatten ∧ ps.length = fs.size ∧ ∀ (i : Nat) (f : Field) (p : List AV), fs[i]? = some f → ps[i]? = some p → Shp P d f.type p := by
  simp only [Shp, hu] at h
  obtain ⟨ps, h1, h2, h3⟩ := h
  exact ⟨ps, h1, h2, fun i f p a b => (h3 i f p a b).2⟩
theorem shp_array {n : Nat} {e : TypeId} (hu : P.underlying t = some (.array n e)) (h : Shp P (d + 1) t avs) : ∃ ps : List (List AV), avs = ps.flatten ∧ ps.length = n ∧ ∀ p ∈ ps, Shp P d e p := by
  simp only [Shp, hu] at h
  obtain ⟨ps, h1, h2, h3⟩ := h
  exact ⟨ps, h1, h2, fun p a => (h3 p a).2⟩
theorem shp_slice {e : TypeId} (hu : P.underlying t = some (.slice e)) (h : Shp P (d + 1) t avs) : ∃ o rows, avs = [.slice o (P.cellsOf e) rows] ∧ (o = .any ∨ (o = .nilS ∧ rows = [])) ∧ rows.length ≤ maxLen ∧ ∀ r ∈ rows, Shp P d e r := by
  simp only [Shp, hu] at h
  obtain ⟨o, rows, h1, h2, h3, h4⟩ := h
  exact ⟨o, rows, h1, h2, h3, fun r a => (h4 r a).2⟩

/-- rows that are each of some form -/
theorem rows_map {α : Type} {q : List AV → α → Prop} : ∀ {rows : List (List AV)}, (∀ r ∈ rows, ∃ a, q r a) → ∃ l : List α, rows.length = l.length ∧ ∀ (i : Nat) r a, rows[i]? = some r → l[i]? = some a → q r a
  | [], _ => ⟨[], rfl, fun i r a h => by simp at h⟩
  | r :: rows, h => by
    obtain ⟨a, ha⟩ := h r (List.mem_cons_self ..)
    obtain ⟨l, h1, h2⟩ := rows_map (rows := rows) (fun r hr => h r (List.mem_cons_of_mem _ hr))
    exact ⟨a :: l, by simp [h1], fun i r' a' h3 h4 => by
      cases i with
      | zero => simp at h3 h4; subst h3 h4; exact ha
      | succ i => simp at h3 h4; exact h2 i r' a' h3 h4⟩
theorem rows_eq {α : Type} {f : α → List AV} {g : α → Prop} {rows : List (List AV)} (h : ∀ r ∈ rows, ∃ a, r = f a ∧ g a) : ∃ l : List α, rows = l.map f ∧ ∀ a ∈ l, g a := by
  obtain ⟨l, h1, h2⟩ := rows_map (q := fun r a => r = f a ∧ g a) h
  refine ⟨l, ?_, fun a ha => ?_⟩
  · apply List.ext_getElem?
    intro i
    by_cases hi : i < rows.length
    · obtain ⟨a, ha⟩ := get_some (l := l) (k := i) (by omega)
      rw [List.getElem?_map, ha, List.getElem?_eq_getElem hi]
      exact congrArg some (h2 i _ a (List.getElem?_eq_getElem hi) ha).1
    · rw [List.getElem?_eq_none (by omega), List.getElem?_eq_none (by simp; omega)]
  · obtain ⟨i, hi⟩ := List.getElem?_of_mem ha
    have hil := (List.getElem?_eq_some_iff.1 hi).1
    obtain ⟨r, hr⟩ := get_some (l := rows) (k := i) (by omega)
    exact (h2 i r a hr hi).2
end
end Go.Ax.Sx
