/-
  A call's arguments as the executor has them: from the row's reading.
-/
import Derived.Test.YtfmojojicndbcaaAxY
import Derived.Deep.Slices
import Derived.OpenShut
namespace Go.Ax
open Go.ChangeShapes Go.WideShapes

/-- the fields fill the cells -/
def tileT (P : Program) (ok : TypeId → Bool) (size : Nat) : Nat → List Field → Bool
  | off, [] => decide (off = size)
  | off, f :: r => decide (f.offset = off) && ok f.type && tileT P ok size (off + P.cellsOf f.type) r

/-- a type that is read here -/
def okT (P : Program) : Nat → TypeId → Bool
  | 0, _ => false
  | d + 1, t => match P.underlying t with
    | some .bool | some (.int _) | some .string => decide (P.cellsOf t = 1)
    | some (.slice e) => decide (P.cellsOf t = 1) && decide (0 < P.cellsOf e) && okT P d e
    | some (.struct fs) => tileT P (okT P d) (P.cellsOf t) 0 fs.toList
    | some (.array n e) => decide (n * P.cellsOf e = P.cellsOf t) && okT P d e
    | _ => false

/-- what the cells of a type look like -/
def Shp (P : Program) : Nat → TypeId → List AV → Prop
  | 0, _, _ => False
  | d + 1, t, avs => match P.underlying t with
    | some .bool => ∃ b, avs = [.v (.bool b)]
    | some (.int k) => ∃ x, avs = [.v (.int k x)] ∧ (Lit.int k x).wf = true
    | some .string => ∃ s : ByteArray, avs = [.v (.string s)] ∧ s.size ≤ maxLen
    | some (.slice e) => ∃ o rows, avs = [.slice o (P.cellsOf e) rows] ∧ (o = .any ∨ (o = .nilS ∧ rows = [])) ∧ rows.length ≤ maxLen ∧ ∀ r ∈ rows, r.length = P.cellsOf e ∧ Shp P d e r
    | some (.struct fs) => ∃ ps : List (List AV), avs = ps.flatten ∧ ps.length = fs.size ∧ ∀ (i : Nat) (f : Field) (p : List AV), fs[i]? = some f → ps[i]? = some p → p.length = P.cellsOf f.type ∧ Shp P d f.type p
    | some (.array n e) => ∃ ps : List (List AV), avs = ps.flatten ∧ ps.length = n ∧ ∀ p ∈ ps, p.length = P.cellsOf e ∧ Shp P d e p
    | _ => False

/-- cell for cell -/
structure RL (w : World) (avs : List AV) (cs : List Value) : Prop where
  len : avs.length = cs.length
  get : ∀ (i : Nat) (a : AV) (c : Value), avs[i]? = some a → cs[i]? = some c → Reads w a c ∧ a.isCell = true

theorem RL.nil {w : World} : RL w [] [] := ⟨rfl, fun i a c h => by simp at h⟩
theorem RL.one {w : World} {a : AV} {c : Value} (h : Reads w a c) (hc : a.isCell = true) : RL w [a] [c] := ⟨rfl, fun i x y h1 h2 => by
  cases i with
  | zero => simp at h1 h2; subst h1 h2; exact ⟨h, hc⟩
  | succ i => simp at h1⟩
theorem RL.append {w : World} {a b : List AV} {c d : List Value} (h : RL w a c) (k : RL w b d) : RL w (a ++ b) (c ++ d) := ⟨by simp [h.len, k.len], fun i x y h1 h2 => by
  by_cases hi : i < a.length
  · rw [List.getElem?_append_left hi] at h1
    rw [List.getElem?_append_left (by rw [← h.len]; exact hi)] at h2
    exact h.get i x y h1 h2
  · rw [List.getElem?_append_right (by omega)] at h1
    rw [List.getElem?_append_right (by rw [← h.len]; omega), ← h.len] at h2
    exact k.get _ x y h1 h2⟩

section
variable {H : Type} {enc : TypeId × Value → H} {P : Program} {w : World}

theorem take_app_drop {α : Type} (l : List α) (off n : Nat) : (l.drop off).take n ++ l.drop (off + n) = l.drop off := by
  rw [← List.drop_drop]; exact List.take_append_drop _ _

theorem open_fields {d size : Nat} {cs : List Value} {n : Nat} (ih : ∀ (t : TypeId) (fuel : Nat) (cs : List Value) (x : DataW H × List MemPlace), okT P d t = true → DataW.trod enc P w 0 (fun _ => true) true fuel t cs = some x → ∃ avs, RL w avs cs ∧ cs.length = P.cellsOf t ∧ Shp P d t avs) (hl : cs.length = size) :
    ∀ (fs : List Field) (off : Nat), tileT P (okT P d) size off fs = true → (∀ f ∈ fs, ∃ y, DataW.trod enc P w 0 (fun _ => true) true n f.type ((cs.drop f.offset).take (P.cellsOf f.type)) = some y) →
      ∃ ps : List (List AV), RL w ps.flatten (cs.drop off) ∧ ps.length = fs.length ∧ ∀ (i : Nat) (f : Field) (p : List AV), fs[i]? = some f → ps[i]? = some p → p.length = P.cellsOf f.type ∧ Shp P d f.type p
  | [], off, ht, _ => by
    have : off = size := by simpa [tileT] using ht
    subst this
    refine ⟨[], ?_, rfl, fun i f p h => by simp at h⟩
    rw [← hl, List.drop_length]; exact .nil
  | f :: r, off, ht, hf => by
    simp only [tileT, Bool.and_eq_true, decide_eq_true_eq] at ht
    obtain ⟨⟨rfl, hok⟩, hr⟩ := ht
    obtain ⟨y, hy⟩ := hf f (List.mem_cons_self ..)
    obtain ⟨avs, h1, h2, h3⟩ := ih _ _ _ _ hok hy
    obtain ⟨ps, k1, k2, k3⟩ := open_fields ih hl r _ hr (fun g hg => hf g (List.mem_cons_of_mem _ hg))
    refine ⟨avs :: ps, ?_, by simp [k2], fun i g p hg hp => ?_⟩
    · rw [List.flatten_cons, ← take_app_drop cs f.offset (P.cellsOf f.type)]
      exact h1.append k1
    · cases i with
      | zero => simp at hg hp; subst hg hp; exact ⟨by rw [h1.len, h2], h3⟩
      | succ i => simp at hg hp; exact k3 i g p hg hp

theorem open_elems {d : Nat} {cs : List Value} {n : Nat} {e : TypeId} (ih : ∀ (t : TypeId) (fuel : Nat) (cs : List Value) (x : DataW H × List MemPlace), okT P d t = true → DataW.trod enc P w 0 (fun _ => true) true fuel t cs = some x → ∃ avs, RL w avs cs ∧ cs.length = P.cellsOf t ∧ Shp P d t avs) (hok : okT P d e = true) :
    ∀ (k i : Nat), cs.length = (i + k) * P.cellsOf e → (∀ j, i ≤ j → j < i + k → ∃ y, DataW.trod enc P w 0 (fun _ => true) true n e ((cs.drop (j * P.cellsOf e)).take (P.cellsOf e)) = some y) →
      ∃ ps : List (List AV), RL w ps.flatten (cs.drop (i * P.cellsOf e)) ∧ ps.length = k ∧ ∀ p ∈ ps, p.length = P.cellsOf e ∧ Shp P d e p
  | 0, i, hl, _ => by
    refine ⟨[], ?_, rfl, fun p h => by simp at h⟩
    rw [show i * P.cellsOf e = cs.length by rw [hl]; simp, List.drop_length]; exact .nil
  | k + 1, i, hl, hf => by
    obtain ⟨y, hy⟩ := hf i (Nat.le_refl _) (by omega)
    obtain ⟨avs, h1, h2, h3⟩ := ih _ _ _ _ hok hy
    obtain ⟨ps, k1, k2, k3⟩ := open_elems ih hok k (i + 1) (by rw [hl]; congr 1; omega) (fun j h1 h2 => hf j (by omega) (by omega))
    refine ⟨avs :: ps, ?_, by simp [k2], fun p hp => ?_⟩
    · rw [List.flatten_cons, ← take_app_drop cs (i * P.cellsOf e) (P.cellsOf e)]
      rw [Nat.succ_mul] at k1
      exact h1.append k1
    · rcases List.mem_cons.1 hp with rfl | hp
      · exact ⟨by rw [h1.len, h2], h3⟩
      · exact k3 p hp

theorem open_type : ∀ (d : Nat) (t : TypeId) (fuel : Nat) (cs : List Value) (x : DataW H × List MemPlace), okT P d t = true → DataW.trod enc P w 0 (fun _ => true) true fuel t cs = some x →
    ∃ avs, RL w avs cs ∧ cs.length = P.cellsOf t ∧ Shp P d t avs
  | 0, t, fuel, cs, x, h, _ => by simp [okT] at h
  | d + 1, t, fuel, cs, x, hok, h => by
    have ih := open_type d
    unfold okT at hok
    cases hu : P.underlying t with
    | none => rw [hu] at hok; cases hok
    | some u =>
      rw [hu] at hok
      cases u with
      | bool =>
        obtain ⟨b, rfl, _⟩ := DataW.trod_bool hu h
        exact ⟨[.v (.bool b)], .one (.v rfl) rfl, by simp only [decide_eq_true_eq] at hok; simp [hok], by simp only [Shp, hu]; exact ⟨b, rfl⟩⟩
      | int k =>
        obtain ⟨n, rfl, _, hw⟩ := DataW.trod_int hu h
        exact ⟨[.v (.int k n)], .one (.v rfl) rfl, by simp only [decide_eq_true_eq] at hok; simp [hok], by simp only [Shp, hu]; exact ⟨n, rfl, hw⟩⟩
      | string =>
        obtain ⟨s, rfl, _, hw⟩ := DataW.trod_string hu h
        exact ⟨[.v (.string s)], .one (.v rfl) rfl, by simp only [decide_eq_true_eq] at hok; simp [hok], by simp only [Shp, hu]; exact ⟨s, rfl, hw⟩⟩
      | struct fs =>
        obtain ⟨xs, n, _, _, hl, hxl, hget⟩ := DataW.trod_struct hu h
        obtain ⟨ps, k1, k2, k3⟩ := open_fields ih hl fs.toList 0 hok (fun f hf => by
          obtain ⟨i, hi⟩ := List.getElem?_of_mem hf
          have hi' : fs[i]? = some f := by simpa using hi
          have hlt : i < xs.length := by
            have := (List.getElem?_eq_some_iff.1 hi).1
            rw [hxl]; simpa using this
          exact ⟨xs[i], by rw [hget i f hi', List.getElem?_eq_getElem hlt]⟩)
        exact ⟨ps.flatten, by simpa using k1, hl, by simp only [Shp, hu]; exact ⟨ps, rfl, by simpa using k2, fun i f p hf hp => k3 i f p (by simpa using hf) hp⟩⟩
      | array n e =>
        simp only [Bool.and_eq_true, decide_eq_true_eq] at hok
        obtain ⟨xs, m, _, _, hl, hxl, hget⟩ := DataW.trod_array hu h
        obtain ⟨ps, k1, k2, k3⟩ := open_elems (n := m) (cs := cs) ih hok.2 n 0 (by rw [hl, ← hok.1, Nat.zero_add]) (fun j _ hj => by
          have hlt : j < xs.length := by omega
          exact ⟨xs[j], by rw [hget j (by omega), List.getElem?_eq_getElem hlt]⟩)
        exact ⟨ps.flatten, by simpa using k1, hl, by simp only [Shp, hu]; exact ⟨ps, rfl, k2, k3⟩⟩
      | slice e =>
        simp only [Bool.and_eq_true, decide_eq_true_eq] at hok
        obtain ⟨⟨hc1, hpos⟩, hoke⟩ := hok
        rcases Deep.open_slice hu h with ⟨rfl, _⟩ | ⟨a, len, cap, m, n, D, Pl, rfl, _, hlc, hcm, hm, _, hx⟩
        · exact ⟨[.slice .nilS (P.cellsOf e) []], .one .nilS rfl, by simp [hc1], by simp only [Shp, hu]; exact ⟨_, _, rfl, .inr ⟨rfl, rfl⟩, by simp, fun r hr => by simp at hr⟩⟩
        · simp only [if_true] at hm
          have hm' : cap = m := hm.symm
          subst hm'
          by_cases h0 : cap = 0
          · subst h0
            have : len = 0 := by omega
            subst this
            exact ⟨[.slice .any (P.cellsOf e) []], .one (.empty (.inl rfl)) rfl, by simp [hc1], by simp only [Shp, hu]; exact ⟨_, _, rfl, .inl rfl, by simp, fun r hr => by simp at hr⟩⟩
          · obtain ⟨blk, off, spot⟩ := a
            have hspot : spot = none := by
              obtain ⟨cs', h1, _⟩ := hx 0 (by omega)
              obtain ⟨_, hl', hg⟩ := World.cells?_some h1
              have := hg 0 hpos
              rw [List.getElem?_eq_getElem (by omega)] at this
              simpa [Addr.add] using World.cell?_spot this
            subst hspot
            obtain ⟨F, hF⟩ := Deep.choose_lt (α := List AV × List Value) (n := len) (p := fun i q => w.cells? 0 ((⟨blk, off, none⟩ : Addr).add (i * P.cellsOf e)) (P.cellsOf e) = some q.2 ∧ RL w q.1 q.2 ∧ q.2.length = P.cellsOf e ∧ Shp P d e q.1) (fun i hi => by
              obtain ⟨cs', h1, h2⟩ := hx i (by omega)
              obtain ⟨avs, k1, k2, k3⟩ := ih _ _ _ _ hoke h2
              exact ⟨(avs, cs'), h1, k1, k2, k3⟩)
            have hrows : ∀ i (hi : i < ((List.range len).map fun i => (F i).1).length), ((List.range len).map fun i => (F i).1)[i] = (F i).1 := fun i hi => by simp
            have hcell : ∀ i, i < len → ∀ j, j < P.cellsOf e → w.cell? ⟨blk, off + i * P.cellsOf e + j, none⟩ = (F i).2[j]? := by
              intro i hi j hj
              obtain ⟨_, _, hg⟩ := World.cells?_some (hF i hi).1
              have := hg j hj
              rw [add_plain, add_plain] at this
              exact this
            refine ⟨[.slice .any (P.cellsOf e) ((List.range len).map fun i => (F i).1)], .one ?_ rfl, by simp [hc1], ?_⟩
            · have hlen : ((List.range len).map fun i => (F i).1).length = len := by simp
              have := RelC.slice (I := fun b i => w.cell? ⟨b, i, none⟩) (o := .any) (es := P.cellsOf e) (xs := (List.range len).map fun i => (F i).1) (blk := blk) (off := off) (cap := cap) (fun i j => ((F i).2).getD j Go.undef) (.inl rfl) (by rw [hlen]; exact hlc)
                (fun r hr => by
                  obtain ⟨i, hi, rfl⟩ := List.mem_map.1 hr
                  have := hF i (by simpa using hi)
                  rw [this.2.1.len, this.2.2.1])
                (fun r hr c hc => by
                  obtain ⟨i, hi, rfl⟩ := List.mem_map.1 hr
                  have hFi := hF i (by simpa using hi)
                  obtain ⟨j, hj⟩ := List.getElem?_of_mem hc
                  have hjl := (List.getElem?_eq_some_iff.1 hj).1
                  exact (hFi.2.1.get j c ((F i).2[j]'(by rw [← hFi.2.1.len]; exact hjl)) hj (List.getElem?_eq_getElem _)).2)
                (fun i hi j hj => by
                  have hi' : i < len := by simpa using hi
                  have hFi := hF i hi'
                  rw [hrows i hi] at hj
                  have hj' : j < (F i).2.length := by rw [← hFi.2.1.len]; exact hj
                  rw [hcell i hi' j (by rw [← hFi.2.2.1]; exact hj'), List.getElem?_eq_getElem hj']
                  simp [List.getD, List.getElem?_eq_getElem hj'])
                (fun i hi j hj => by
                  have hi' : i < len := by simpa using hi
                  have hFi := hF i hi'
                  have hj2 : j < (F i).1.length := by rw [hrows i hi] at hj; exact hj
                  have hj' : j < (F i).2.length := by rw [← hFi.2.1.len]; exact hj2
                  have hg := (hFi.2.1.get j ((F i).1[j]) ((F i).2[j]) (List.getElem?_eq_getElem hj2) (List.getElem?_eq_getElem hj')).1
                  have e1 : ((List.range len).map fun i => (F i).1)[i][j] = (F i).1[j] := by simp
                  rw [e1, show ((F i).2).getD j Go.undef = (F i).2[j] by simp [List.getD, List.getElem?_eq_getElem hj']]
                  exact hg)
              rw [hlen] at this
              exact this
            · simp only [Shp, hu]
              exact ⟨_, _, rfl, .inl rfl, by simp; omega, fun r hr => by
                obtain ⟨i, hi, rfl⟩ := List.mem_map.1 hr
                have hFi := hF i (by simpa using hi)
                exact ⟨by rw [hFi.2.1.len, hFi.2.2.1], hFi.2.2.2⟩⟩
      | _ => cases hok

/-- An argument, as the executor has it. -/
def asArg : Value → List AV → AV
  | .agg _, avs => .agg avs
  | _, [x] => x
  | _, _ => AV.undef

end
end Go.Ax
