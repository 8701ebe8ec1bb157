/-
  The other operations without a call: slices, elements, structs and conversions.
-/
import Derived.Test.YtfmojojicndbcaaAxK
namespace Go.Ax
open Go.RowKit

section
variable {P : Program} {B0 : Nat} {w0 : World} {G : Ghost} {k nl : Nat} {w : World} {s : Sig}

theorem asNat_mono {x : AV} {m m' n : Nat} (h : asNat x m = some n) (hm : m ≤ m') : asNat x m' = some n := by
  unfold asNat at h ⊢
  split at h
  · split at h
    · rename_i hc
      rw [if_pos ⟨hc.1, by omega⟩]
      exact h
    · cases h
  · cases h

theorem chunks_spec (es : Nat) : ∀ (n : Nat) (cs : List AV), n * es ≤ cs.length → (chunks es n cs).length = n ∧ (∀ r, r ∈ chunks es n cs → r.length = es) ∧ (∀ r, r ∈ chunks es n cs → ∀ c, c ∈ r → c ∈ cs) ∧
    ∀ i (hi : i < (chunks es n cs).length) j (hj : j < (chunks es n cs)[i].length), ∃ h : i * es + j < cs.length, (chunks es n cs)[i][j] = cs[i * es + j]
  | 0, cs, _ => by simp [chunks]
  | n + 1, cs, h => by
    have hs : (n + 1) * es = n * es + es := by rw [Nat.add_mul, Nat.one_mul]
    obtain ⟨a1, a2, a3, a4⟩ := chunks_spec es n (cs.drop es) (by simp; omega)
    refine ⟨by simp [chunks, a1], fun r hr => ?_, fun r hr c hc => ?_, fun i hi j hj => ?_⟩
    · simp only [chunks, List.mem_cons] at hr
      rcases hr with rfl | hr
      · simp; omega
      · exact a2 r hr
    · simp only [chunks, List.mem_cons] at hr
      rcases hr with rfl | hr
      · exact List.mem_of_mem_take hc
      · exact List.mem_of_mem_drop (a3 r hr c hc)
    · cases i with
      | zero =>
        simp only [chunks, List.getElem_cons_zero, List.length_take] at hj ⊢
        exact ⟨by omega, by simp⟩
      | succ i =>
        simp only [chunks, List.getElem_cons_succ, List.length_cons] at hi hj ⊢
        obtain ⟨h1, h2⟩ := a4 i (by omega) j hj
        simp only [List.length_drop] at h1
        have e : (i + 1) * es + j = es + (i * es + j) := by rw [Nat.add_mul, Nat.one_mul]; omega
        refine ⟨by omega, ?_⟩
        rw [h2, List.getElem_drop]
        simp only [e]

theorem row_slice {I : IMap} {cs : List AV} {es n cap blk o0 off : Nat} {f : Nat → Value} (hcell : ∀ c, c ∈ cs → c.isCell = true) (hI : ∀ i, i < cs.length → I blk (o0 + i) = some (f i)) (hR : ∀ i (hi : i < cs.length), RelC I cs[i] (f i))
    (hle : off + n * es ≤ cs.length) (hc : n ≤ cap) : SliceC I es (chunks es n (cs.drop off)) ⟨blk, o0 + off, none⟩ cap := by
  obtain ⟨a1, a2, a3, a4⟩ := chunks_spec es n (cs.drop off) (by simp; omega)
  have : SliceC I es (chunks es n (cs.drop off)) ⟨blk, o0 + off, none⟩ cap := by
    refine RelC.slice (fun i j => f (off + (i * es + j))) (.inl rfl) (by omega) a2 (fun r hr c hc => hcell c (List.mem_of_mem_drop (a3 r hr c hc))) (fun i hi j hj => ?_) (fun i hi j hj => ?_)
    · obtain ⟨h1, _⟩ := a4 i hi j hj
      simp only [List.length_drop] at h1
      have := hI (off + (i * es + j)) (by omega)
      rw [← this]
      congr 1
      omega
    · obtain ⟨h1, h2⟩ := a4 i hi j hj
      rw [h2, List.getElem_drop]
      exact hR _ _
  exact this

theorem toFull {I : IMap} {es : Nat} {xs : List (List AV)} {a : Addr} {n : Nat} (hn : xs.length = n) (h : RelC I (.slice .any es xs) (.slice (some a) n n)) : RelC I (.slice .full es xs) (.slice (some a) n n) := by
  subst hn
  generalize hN : xs.length = N at h
  cases h with
  | slice f ho hc hes hcell hI hR => exact .slice f (.inr ⟨rfl, rfl⟩) hc hes hcell hI hR
  | empty => exact .empty (.inr rfl)

/-- A part of a string, of a slice, of an array behind a pointer. -/
def SlKindOk (P : Program) (t : TypeId) : SlKind → Prop
  | .str => P.underlying t = some .string
  | .sl es => ∃ e, P.underlying t = some (.slice e) ∧ sizeP P e = some es
  | .arr n es => ∃ e, P.underlying t = some (.array n e) ∧ sizeP P e = some es

theorem loOf_le {lo : Option AV} {h l : Nat} (e : loOf lo h = some l) : l ≤ h := by
  cases lo with
  | none => simp only [loOf, Option.some.injEq] at e; omega
  | some y => exact asNat_le e

theorem mxOf_le {mx : Option AV} {cap m : Nat} (e : mxOf mx cap = some m) : m ≤ cap := by
  cases mx with
  | none => simp only [mxOf, Option.some.injEq] at e; omega
  | some y => exact asNat_le e

/-- The bounds, and the cap that the model takes where a capacity is not known: len ≤ the real one. -/
theorem bounds_all {isSlice : Bool} {len cap cap' : Nat} {lo hi mx : Option AV} {lo' hi' mx' : Option Value} {m h l : Nat} (hlo : OptRel G k nl lo lo') (hhi : OptRel G k nl hi hi') (hmx : OptRel G k nl mx mx')
    (hcap : len ≤ cap) (hcap' : cap ≤ cap') (em : mxOf mx cap = some m) (eh : hiOf hi mx.isSome m len = some h) (el : loOf lo h = some l) :
    l ≤ h ∧ h ≤ m ∧ m ≤ cap ∧ (Instr.sliceBounds isSlice len cap' lo' hi' mx').run P w = .ok (l, h, if mx.isSome then m else cap') w := by
  have hm := mxOf_le em
  have hl := loOf_le el
  have hh : h ≤ m := by
    cases hi with
    | none =>
      cases mx with
      | none => simp only [hiOf, mxOf, Option.isSome_none, Bool.false_eq_true, if_false, Option.some.injEq] at eh em; omega
      | some => simp [hiOf] at eh
    | some y => exact asNat_le eh
  refine ⟨hl, hh, hm, ?_⟩
  cases mx with
  | none =>
    cases mx' with
    | some => exact hmx.elim
    | none =>
      simp only [mxOf, Option.some.injEq] at em
      subst em
      simp only [Option.isSome_none, Bool.false_eq_true, if_false]
      refine bounds_run hlo hhi ?_ el
      cases hi with
      | none => exact eh
      | some y => exact asNat_mono eh hcap'
  | some mv =>
    cases mx' with
    | none => exact hmx.elim
    | some mv' =>
      cases hi with
      | none => simp [hiOf] at eh
      | some hv =>
        cases hi' with
        | none => exact hhi.elim
        | some hv' =>
          simp only [Option.isSome_some, if_true]
          exact bounds_run3 hlo hhi hmx (asNat_mono em hcap') eh el

theorem sliceStr_sound {t : TypeId} {q : ByteArray} {x : Value} {v : AV} {lo hi mx : Option AV} {lo' hi' mx' : Option Value} (ht : P.underlying t = some .string)
    (hx : Rel G k nl (.v (.string q)) x) (hlo : OptRel G k nl lo lo') (hhi : OptRel G k nl hi hi') (hmx : OptRel G k nl mx mx') (h : sliceOp .str (.v (.string q)) lo hi mx = some v) :
    ∃ z, (Instr.sliceAt t x lo' hi' mx').run P w = .ok z w ∧ Rel G k nl v z := by
  obtain rfl := hx.inv_v
  simp only [sliceOp] at h
  split at h
  · cases h
  rename_i hs
  obtain ⟨hh, eh, h⟩ := Option.bind_eq_some_iff.1 h
  obtain ⟨l, el, rfl⟩ := Option.map_eq_some_iff.1 h
  have hn : mx = none := by cases mx with | none => rfl | some => simp at hs
  subst hn
  obtain ⟨h1, h2, h3, hb⟩ := bounds_all (P := P) (w := w) (isSlice := false) (len := q.size) (cap := q.size) (cap' := q.size) hlo hhi hmx (Nat.le_refl _) (Nat.le_refl _) rfl eh el
  have hn' : mx' = none := by cases mx' with | none => rfl | some => exact hmx.elim
  subst hn'
  refine ⟨_, ?_, .val _ rfl⟩
  simp only [Instr.sliceAt, Sem.run_bind, run_underlying ht, Result.andThen_ok, Instr.slice, Option.isSome_none, Bool.false_eq_true, if_false, Sem.run_pure]
  simp [hb]

theorem addr_part (p : Addr) (hs : p.spot = none) (l es m : Nat) : (if m = l then p else p.add (l * es)) = ⟨p.block, (if m = l then p.off else p.off + l * es), none⟩ := by
  rw [addr_eta hs]
  split
  · rfl
  · rw [addr_add]

theorem sliceSl_sound {t e : TypeId} {e0 : Nat} {o : Own} {es : Nat} {xs : List (List AV)} {x : Value} {v : AV} {lo hi mx : Option AV} {lo' hi' mx' : Option Value} (ht : P.underlying t = some (.slice e)) (hsz : sizeP P e = some e0)
    (hx : Rel G k nl (.slice o es xs) x) (hlo : OptRel G k nl lo lo') (hhi : OptRel G k nl hi hi') (hmx : OptRel G k nl mx mx') (h : sliceOp (.sl e0) (.slice o es xs) lo hi mx = some v) :
    ∃ z, (Instr.sliceAt t x lo' hi' mx').run P w = .ok z w ∧ Rel G k nl v z := by
  simp only [sliceOp] at h
  split at h
  case isFalse => cases h
  rename_i hee
  obtain ⟨m, em, h⟩ := Option.bind_eq_some_iff.1 h
  obtain ⟨hh, eh, h⟩ := Option.bind_eq_some_iff.1 h
  obtain ⟨l, el, rfl⟩ := Option.map_eq_some_iff.1 h
  rcases hx.inv_slice with ⟨rfl, rfl, rfl⟩ | ⟨hne, p, cap, rfl, hsp, hcap, hxc, hfull⟩
  · obtain ⟨h1, h2, h3, hb⟩ := bounds_all (P := P) (w := w) (isSlice := true) (len := 0) (cap := 0) (cap' := 0) hlo hhi hmx (Nat.le_refl _) (Nat.le_refl _) em eh el
    have h0 : hh = 0 := by simp at h3; omega
    have l0 : l = 0 := by omega
    have m0 : m = 0 := by simp at h3; omega
    subst h0 l0 m0
    have hv : Rel G k nl (.slice .nilS es []) (.slice none 0 0) := .cl .nilS
    have hown : (.slice (slOwn .nilS mx.isSome (0 == 0 && 0 == ([] : List (List AV)).length) (0 == 0 && decide (0 < 0))) es (([].take 0).drop 0) : AV) = .slice .nilS es [] := by
      cases mx <;> simp [slOwn, sliceOwn, Own.isNil]
    refine ⟨.slice none 0 0, ?_, by rw [hown]; exact hv⟩
    simp only [Instr.sliceAt, Sem.run_bind, run_underlying ht, Result.andThen_ok, Instr.slice, hb]
    cases mx <;> simp [sizeOf_run hsz]
  · have heq : es = e0 := by
      rcases hee with h0 | h0
      · cases o <;> simp_all [Own.isNil]
      · exact h0
    subst heq
    obtain ⟨h1, h2, h3, hb⟩ := bounds_all (P := P) (w := w) (isSlice := true) (len := xs.length) (cap := xs.length) (cap' := cap) hlo hhi hmx (Nat.le_refl _) hcap em eh el
    have hlen : ((xs.take hh).drop l).length = hh - l := by simp; omega
    refine ⟨.slice (some (if (if mx.isSome then m else cap) = l then p else p.add (l * es))) (hh - l) ((if mx.isSome then m else cap) - l), ?_, ?_⟩
    · simp only [Instr.sliceAt, Sem.run_bind, run_underlying ht, Result.andThen_ok, Instr.slice, hb, sizeOf_run hsz, Option.map_some, Sem.run_pure]
      congr 2
      split <;> split <;> rfl
    · generalize hM : (if mx.isSome then m else cap) = M
      have hMh : hh ≤ M := by rw [← hM]; split <;> omega
      have hcut : RelC G.I (.slice .any es ((xs.take hh).drop l)) (.slice (some (if M = l then p else p.add (l * es))) (hh - l) (M - l)) := by
        have := SliceC.cut hxc h1 (by omega) M hMh (by rw [← hM]; split <;> omega) _ rfl
        unfold SliceC at this
        rwa [hlen] at this
      cases mx with
      | none =>
        simp only [Option.isSome_none, Bool.false_eq_true, if_false] at hM
        subst hM
        simp only [slOwn, Option.isSome_none, Bool.false_eq_true, if_false]
        by_cases hw : (l == 0 && hh == xs.length) = true
        · simp only [Bool.and_eq_true, beq_iff_eq] at hw
          obtain ⟨rfl, rfl⟩ := hw
          have e1 : (xs.take xs.length).drop 0 = xs := by simp
          have e2 : (if cap = 0 then p else p.add (0 * es)) = p := by
            split
            · rfl
            · rw [addr_eta (hsp (by omega)), addr_add]; simp
          rw [e1, e2]
          simp only [Nat.sub_zero]
          cases o with
          | nilS => exact absurd rfl hne
          | any => exact hx
          | full => exact .cl hxc
          | tok d g => simpa [sliceOwn] using hx
        · have ho : sliceOwn o (l == 0 && hh == xs.length) = .any := by
            cases o with
            | nilS => exact absurd rfl hne
            | any => rfl
            | full => rfl
            | tok d g => simp only [sliceOwn]; rw [if_neg hw]
          rw [ho]
          exact .cl hcut
      | some mv =>
        simp only [Option.isSome_some, if_true] at hM
        subst hM
        have hnil : o.isNil = false := by cases o <;> simp_all [Own.isNil]
        simp only [slOwn, Option.isSome_some, if_true, hnil, Bool.false_eq_true, if_false]
        by_cases hw : (hh == m && decide (0 < m)) = true
        · rw [if_pos hw]
          simp only [Bool.and_eq_true, beq_iff_eq] at hw
          obtain ⟨rfl, _⟩ := hw
          exact .cl (toFull hlen hcut)
        · rw [if_neg hw]
          exact .cl hcut

theorem sliceRsl_sound {t e : TypeId} {e0 d b off es n cap : Nat} {x : Value} {v : AV} {lo hi mx : Option AV} {lo' hi' mx' : Option Value} (ht : P.underlying t = some (.slice e)) (hsz : sizeP P e = some e0)
    (hx : Rel G k nl (.rsl d b off es n cap) x) (hlo : OptRel G k nl lo lo') (hhi : OptRel G k nl hi hi') (hmx : OptRel G k nl mx mx') (h : sliceOp (.sl e0) (.rsl d b off es n cap) lo hi mx = some v) :
    ∃ z, (Instr.sliceAt t x lo' hi' mx').run P w = .ok z w ∧ Rel G k nl v z := by
  simp only [sliceOp] at h
  split at h
  case isFalse => cases h
  rename_i hee
  subst hee
  obtain ⟨m, em, h⟩ := Option.bind_eq_some_iff.1 h
  obtain ⟨hh, eh, h⟩ := Option.bind_eq_some_iff.1 h
  obtain ⟨l, el, rfl⟩ := Option.map_eq_some_iff.1 h
  obtain ⟨blk, gr, rfl, hd, hg, hbl, hn⟩ := hx.inv_rsl
  obtain ⟨h1, h2, h3, hb⟩ := bounds_all (P := P) (w := w) (isSlice := true) (len := n) (cap := cap) (cap' := cap) hlo hhi hmx hn (Nat.le_refl _) em eh el
  have hM : (if mx.isSome then m else cap) = m := by
    cases mx with
    | none => simp only [mxOf, Option.some.injEq] at em; simpa using em
    | some => rfl
  rw [hM] at hb
  refine ⟨_, ?_, .rsl gr hd hg hbl (Nat.sub_le_sub_right h2 l)⟩
  simp only [Instr.sliceAt, Sem.run_bind, run_underlying ht, Result.andThen_ok, Instr.slice, hb, sizeOf_run hsz, Option.map_some, Sem.run_pure, addr_add]
  congr 2
  split <;> rfl

theorem sliceArr_sound {t e : TypeId} {N es : Nat} {a v : AV} {x : Value} {lo hi mx : Option AV} {lo' hi' mx' : Option Value} (ht : P.underlying t = some (.array N e)) (hsz : sizeP P e = some es)
    (hx : Rel G k nl a x) (hlo : OptRel G k nl lo lo') (hhi : OptRel G k nl hi hi') (hmx : OptRel G k nl mx mx') (h : sliceOp (.arr N es) a lo hi mx = some v) :
    ∃ z, (Instr.sliceAt t x lo' hi' mx').run P w = .ok z w ∧ Rel G k nl v z := by
  unfold sliceOp at h
  split at h <;> try contradiction
  · rename_i n0 es0 d b off hk
    injection hk with hk1 hk2
    subst hk1 hk2
    split at h
    · cases h
    rename_i hs
    have hn : mx = none := by cases mx with | none => rfl | some => simp at hs
    subst hn
    obtain ⟨hh, eh, h⟩ := Option.bind_eq_some_iff.1 h
    obtain ⟨l, el, rfl⟩ := Option.map_eq_some_iff.1 h
    obtain ⟨blk, gr, rfl, hd, hg, hbl⟩ := hx.inv_ptr
    obtain ⟨h1, h2, h3, hb⟩ := bounds_all (P := P) (w := w) (isSlice := false) (len := N) (cap := N) (cap' := N) hlo hhi hmx (Nat.le_refl _) (Nat.le_refl _) rfl eh el
    refine ⟨_, ?_, .rsl gr hd hg hbl (Nat.sub_le_sub_right h2 l)⟩
    simp only [Instr.sliceAt, Sem.run_bind, run_underlying ht, Result.andThen_ok, Instr.sureAddr, hb, sizeOf_run hsz, Sem.run_pure, addr_add, Option.isSome_none, Bool.false_eq_true, if_false]
    congr 3
    split <;> rfl
  · rename_i n0 es0 cs off hk
    injection hk with hk1 hk2
    subst hk1 hk2
    split at h
    · cases h
    rename_i hs
    have hn : mx = none := by cases mx with | none => rfl | some => simp at hs
    subst hn
    obtain ⟨hh, eh, h⟩ := Option.bind_eq_some_iff.1 h
    obtain ⟨l, el, h⟩ := Option.bind_eq_some_iff.1 h
    split at h
    case isFalse => cases h
    rename_i hle
    injection h with h
    subst h
    obtain ⟨blk, o0, f, rfl, hcell, hI, hR⟩ := hx.inv_eptr
    obtain ⟨h1, h2, h3, hb⟩ := bounds_all (P := P) (w := w) (isSlice := false) (len := N) (cap := N) (cap' := N) hlo hhi hmx (Nat.le_refl _) (Nat.le_refl _) rfl eh el
    have hmul : l * es + (hh - l) * es ≤ N * es := by
      rw [← Nat.add_mul]
      exact Nat.mul_le_mul_right _ (by omega)
    have hrow := row_slice (cap := N - l) hcell hI hR (es := es) (n := hh - l) (off := off + l * es) (by omega) (Nat.sub_le_sub_right h2 l)
    have hlen := (chunks_spec es (hh - l) (cs.drop (off + l * es)) (by simp; omega)).1
    refine ⟨.slice (some (if N = l then ⟨blk, o0 + off, none⟩ else ⟨blk, o0 + (off + l * es), none⟩)) (hh - l) (N - l), ?_, ?_⟩
    · simp only [Instr.sliceAt, Sem.run_bind, run_underlying ht, Result.andThen_ok, Instr.sureAddr, hb, sizeOf_run hsz, Sem.run_pure, addr_add, Option.isSome_none, Bool.false_eq_true, if_false]
      congr 3
      split
      · rfl
      · congr 1; omega
    · by_cases hN : N = l
      · subst hN
        have h0 : hh = N := by omega
        subst h0
        simp only [Nat.sub_self, chunks, if_true]
        exact .cl (.slice (xs := []) (fun _ _ => Go.undef) (.inl rfl) (Nat.le_refl _) (fun r hr => by cases hr) (fun r hr => by cases hr) (fun i hi => absurd hi (Nat.not_lt_zero _)) (fun i hi => absurd hi (Nat.not_lt_zero _)))
      · rw [if_neg hN]
        have := Rel.cl (G := G) (k := k) (nl := nl) hrow
        unfold SliceC at hrow
        rw [hlen] at hrow
        exact .cl hrow

theorem sliceOp_sound {t : TypeId} {kd : SlKind} {a v : AV} {x : Value} {lo hi mx : Option AV} {lo' hi' mx' : Option Value} (ht : SlKindOk P t kd)
    (hx : Rel G k nl a x) (hlo : OptRel G k nl lo lo') (hhi : OptRel G k nl hi hi') (hmx : OptRel G k nl mx mx') (h : sliceOp kd a lo hi mx = some v) :
    ∃ z, (Instr.sliceAt t x lo' hi' mx').run P w = .ok z w ∧ Rel G k nl v z := by
  cases kd with
  | str =>
    cases a with
    | v q =>
      cases q with
      | string q => exact sliceStr_sound ht hx hlo hhi hmx h
      | _ => simp [sliceOp] at h
    | _ => simp [sliceOp] at h
  | sl e0 =>
    obtain ⟨e, ht, hs⟩ := ht
    cases a with
    | slice o es xs => exact sliceSl_sound ht hs hx hlo hhi hmx h
    | rsl d b off es n cap => exact sliceRsl_sound ht hs hx hlo hhi hmx h
    | _ => simp [sliceOp] at h
  | arr n es =>
    obtain ⟨e, ht, hs⟩ := ht
    exact sliceArr_sound ht hs hx hlo hhi hmx h

end
end Go.Ax
