/-
  The other operations without a call: slices, elements, structs and conversions.
-/
import Derived.Test.YtehlallciamkoaaT3
import Derived.Laws.IdiomStrings
import Derived.Laws.MakeOwn
namespace Go.Ax
open Go.RowKit
section
variable {P : Program} {B0 : Nat} {w0 : World} {G : Ghost} {k nl : Nat} {w : World} {s : Sig}
theorem asNat_mono {x : AV} {m m' n : Nat} (h : asNat x m = some n) (hm : m ≤ m') : asNat x m' = some n := by
 unfold asNat at h ⊢
 split at h
 ·split at h
  ·rename_i hc
   rw [if_pos ⟨hc.1, by omega⟩]
   exact h
  ·cases h
 ·cases h
theorem chunks_spec (es : Nat) : ∀ (n : Nat) (cs : List AV), n * es ≤ cs.length → (chunks es n cs).length = n ∧ (∀ r, r ∈ chunks es n cs → r.length = es) ∧ (∀ r, r ∈ chunks es n cs → ∀ c, c ∈ r → c ∈ cs) ∧
  ∀ i (hi : i < (chunks es n cs).length) j (hj : j < (chunks es n cs)[i].length), ∃ h : i * es + j < cs.length, (chunks es n cs)[i][j] = cs[i * es + j]
 | 0, cs, _ => by simp [chunks]
 | n + 1, cs, h => by
  have hs : (n + 1) * es = n * es + es := by rw [Nat.add_mul, Nat.one_mul]
  obtain ⟨a1, a2, a3, a4⟩ := chunks_spec es n (cs.drop es) (by simp; omega)
  refine ⟨by simp [chunks, a1], fun r hr => ?_, fun r hr c hc => ?_, fun i hi j hj => ?_⟩
  ·simp only [chunks, List.mem_cons] at hr
   rcases hr with rfl | hr
   ·simp; omega
   ·exact a2 r hr
  ·simp only [chunks, List.mem_cons] at hr
   rcases hr with rfl | hr
   ·exact List.mem_of_mem_take hc
   ·exact List.mem_of_mem_drop (a3 r hr c hc)
  ·cases i with
   | zero =>
    simp only [chunks, List.getElem_cons_zero, List.length_take] at hj ⊢
    exact ⟨by omega, by simp⟩
   | succ i =>
    simp only [chunks, List.getElem_cons_succ, List.length_cons] at hi hj ⊢
    obtain ⟨h1, h2⟩ := a4 i (by omega) j hj
    simp only [List.length_drop] at h1
    have e : (i + 1) * es + j = es + (i * es + j) := by rw [Nat.add_mul, Nat.one_mul]; omega
    refine ⟨by omega, ?_⟩
    rw [h2, List.getElem_drop]
    simp only [e]
theorem row_slice {I : IMap} {cs : List AV} {es n cap blk o0 off : Nat} {f : Nat → Value} (hcell : ∀ c, c ∈ cs → c.isCell = true) (hI : ∀ i, i < cs.length → I blk (o0 + i) = some (f i)) (hR : ∀ i (hi : i < cs.length), RelC I cs[i] (f i))
  (hle : off + n * es ≤ cs.length) (hc : n ≤ cap) : SliceC I es (chunks es n (cs.drop off)) ⟨blk, o0 + off, none⟩ cap := by
 obtain ⟨a1, a2, a3, a4⟩ := chunks_spec es n (cs.drop off) (by simp; omega)
 have : SliceC I es (chunks es n (cs.drop off)) ⟨blk, o0 + off, none⟩ cap := by
  refine RelC.slice (fun i j => f (off + (i * es + j))) (.inl rfl) (by omega) a2 (fun r hr c hc => hcell c (List.mem_of_mem_drop (a3 r hr c hc))) (fun i hi j hj => ?_) (fun i hi j hj => ?_)
  ·obtain ⟨h1, _⟩ := a4 i hi j hj
   simp only [List.length_drop] at h1
   have := hI (off + (i * es + j)) (by omega)
   rw [← this]
   congr 1
   omega
  ·obtain ⟨h1, h2⟩ := a4 i hi j hj
   rw [h2, List.getElem_drop]
   exact hR _ _
 exact this
theorem toFull {I : IMap} {es : Nat} {xs : List (List AV)} {a : Addr} {n : Nat} (hn : xs.length = n) (h : RelC I (.slice .any es xs) (.slice (some a) n n)) : RelC I (.slice .full es xs) (.slice (some a) n n) := by
 subst hn
 generalize hN : xs.length = N at h
 cases h with
 | slice f ho hc hes hcell hI hR => exact .slice f (.inr ⟨rfl, rfl⟩) hc hes hcell hI hR
 | empty => exact .empty (.inr rfl)
def SlKindOk (P : Program) (t : TypeId) : SlKind → Prop
 | .str => P.underlying t = some .string
 | .sl es => ∃ e, P.underlying t = some (.slice e) ∧ sizeP P e = some es
 | .arr n es => ∃ e, P.underlying t = some (.array n e) ∧ sizeP P e = some es
theorem loOf_le {lo : Option AV} {h l : Nat} (e : loOf lo h = some l) : l ≤ h := by
 cases lo with
 | none => simp only [loOf, Option.some.injEq] at e; omega
 | some y => exact asNat_le e
theorem mxOf_le {mx : Option AV} {cap m : Nat} (e : mxOf mx cap = some m) : m ≤ cap := by
 cases mx with
 | none => simp only [mxOf, Option.some.injEq] at e; omega
 | some y => exact asNat_le e
theorem bounds_all {isSlice : Bool} {len cap cap' : Nat} {lo hi mx : Option AV} {lo' hi' mx' : Option Value} {m h l : Nat} (hlo : OptRel G k nl lo lo') (hhi : OptRel G k nl hi hi') (hmx : OptRel G k nl mx mx')
  (hcap : len ≤ cap) (hcap' : cap ≤ cap') (em : mxOf mx cap = some m) (eh : hiOf hi mx.isSome m len = some h) (el : loOf lo h = some l) :
  l ≤ h ∧ h ≤ m ∧ m ≤ cap ∧ (Instr.sliceBounds isSlice len cap' lo' hi' mx').run P w = .ok (l, h, if mx.isSome then m else cap') w := by
 have hm := mxOf_le em
 have hl := loOf_le el
 have hh : h ≤ m := by
  cases hi with
  | none =>
   cases mx with
   | none => simp only [hiOf, mxOf, Option.isSome_none, Bool.false_eq_true, if_false, Option.some.injEq] at eh em; omega
   | some => simp [hiOf] at eh
  | some y => exact asNat_le eh
 refine ⟨hl, hh, hm, ?_⟩
 cases mx with
 | none =>
  cases mx' with
  | some => exact hmx.elim
  | none =>
   simp only [mxOf, Option.some.injEq] at em
   subst em
   simp only [Option.isSome_none, Bool.false_eq_true, if_false]
   refine bounds_run hlo hhi ?_ el
   cases hi with
   | none => exact eh
   | some y => exact asNat_mono eh hcap'
 | some mv =>
  cases mx' with
  | none => exact hmx.elim
  | some mv' =>
   cases hi with
   | none => simp [hiOf] at eh
   | some hv =>
    cases hi' with
    | none => exact hhi.elim
    | some hv' =>
     simp only [Option.isSome_some, if_true]
     exact bounds_run3 hlo hhi hmx (asNat_mono em hcap') eh el
theorem sliceStr_sound {t : TypeId} {q : ByteArray} {x : Value} {v : AV} {lo hi mx : Option AV} {lo' hi' mx' : Option Value} (ht : P.underlying t = some .string)
  (hx : Rel G k nl (.v (.string q)) x) (hlo : OptRel G k nl lo lo') (hhi : OptRel G k nl hi hi') (hmx : OptRel G k nl mx mx') (h : sliceOp .str (.v (.string q)) lo hi mx = some v) :
  ∃ z, (Instr.sliceAt t x lo' hi' mx').run P w = .ok z w ∧ Rel G k nl v z := by
 obtain rfl := hx.inv_v
 simp only [sliceOp] at h
 split at h
 ·cases h
 rename_i hs
 obtain ⟨hh, eh, h⟩ := Option.bind_eq_some_iff.1 h
 obtain ⟨l, el, rfl⟩ := Option.map_eq_some_iff.1 h
 have hn : mx = none := by cases mx with | none => rfl | some => simp at hs
 subst hn
 obtain ⟨h1, h2, h3, hb⟩ := bounds_all (P := P) (w := w) (isSlice := false) (len := q.size) (cap := q.size) (cap' := q.size) hlo hhi hmx (Nat.le_refl _) (Nat.le_refl _) rfl eh el
 have hn' : mx' = none := by cases mx' with | none => rfl | some => exact hmx.elim
 subst hn'
 refine ⟨_, ?_, .val _ rfl⟩
 simp only [Instr.sliceAt, Sem.run_bind, run_underlying ht, Result.andThen_ok, Instr.slice, Option.isSome_none, Bool.false_eq_true, if_false, Sem.run_pure]
 simp [hb]
theorem sliceSl_sound {t e : TypeId} {e0 : Nat} {o : Own} {es : Nat} {xs : List (List AV)} {x : Value} {v : AV} {lo hi mx : Option AV} {lo' hi' mx' : Option Value} (ht : P.underlying t = some (.slice e)) (hsz : sizeP P e = some e0)
  (hx : Rel G k nl (.slice o es xs) x) (hlo : OptRel G k nl lo lo') (hhi : OptRel G k nl hi hi') (hmx : OptRel G k nl mx mx') (h : sliceOp (.sl e0) (.slice o es xs) lo hi mx = some v) :
  ∃ z, (Instr.sliceAt t x lo' hi' mx').run P w = .ok z w ∧ Rel G k nl v z := by
 simp only [sliceOp] at h
 split at h
 case isFalse => cases h
 rename_i hee
 obtain ⟨m, em, h⟩ := Option.bind_eq_some_iff.1 h
 obtain ⟨hh, eh, h⟩ := Option.bind_eq_some_iff.1 h
 obtain ⟨l, el, rfl⟩ := Option.map_eq_some_iff.1 h
 rcases hx.inv_slice with ⟨rfl, rfl, rfl⟩ | ⟨hne, p, cap, rfl, hsp, hcap, hxc, hfull⟩
 ·obtain ⟨h1, h2, h3, hb⟩ := bounds_all (P := P) (w := w) (isSlice := true) (len := 0) (cap := 0) (cap' := 0) hlo hhi hmx (Nat.le_refl _) (Nat.le_refl _) em eh el
  have h0 : hh = 0 := by simp at h3; omega
  have l0 : l = 0 := by omega
  have m0 : m = 0 := by simp at h3; omega
  subst h0 l0 m0
  have hv : Rel G k nl (.slice .nilS es []) (.slice none 0 0) := .cl .nilS
  have hown : (.slice (slOwn .nilS mx.isSome (0 == 0 && 0 == ([] : List (List AV)).length) (0 == 0 && decide (0 < 0))) es (([].take 0).drop 0) : AV) = .slice .nilS es [] := by
   cases mx <;> simp [slOwn, sliceOwn, Own.isNil]
  refine ⟨.slice none 0 0, ?_, by rw [hown]; exact hv⟩
  simp only [Instr.sliceAt, Sem.run_bind, run_underlying ht, Result.andThen_ok, Instr.slice, hb]
  cases mx <;> simp [sizeOf_run hsz]
 ·have heq : es = e0 := by
   rcases hee with h0 | h0
   ·cases o <;> simp_all [Own.isNil]
   ·exact h0
  subst heq
  obtain ⟨h1, h2, h3, hb⟩ := bounds_all (P := P) (w := w) (isSlice := true) (len := xs.length) (cap := xs.length) (cap' := cap) hlo hhi hmx (Nat.le_refl _) hcap em eh el
  have hlen : ((xs.take hh).drop l).length = hh - l := by simp; omega
  refine ⟨.slice (some (if (if mx.isSome then m else cap) = l then p else p.add (l * es))) (hh - l) ((if mx.isSome then m else cap) - l), ?_, ?_⟩
  ·simp only [Instr.sliceAt, Sem.run_bind, run_underlying ht, Result.andThen_ok, Instr.slice, hb, sizeOf_run hsz, Option.map_some, Sem.run_pure]
   congr 2
   split <;> split <;> rfl
  ·generalize hM : (if mx.isSome then m else cap) = M
   have hMh : hh ≤ M := by rw [← hM]; split <;> omega
   have hcut : RelC G.I (.slice .any es ((xs.take hh).drop l)) (.slice (some (if M = l then p else p.add (l * es))) (hh - l) (M - l)) := by
    have := SliceC.cut hxc h1 (by omega) M hMh (by rw [← hM]; split <;> omega) _ rfl
    unfold SliceC at this
    rwa [hlen] at this
   cases mx with
   | none =>
    simp only [Option.isSome_none, Bool.false_eq_true, if_false] at hM
    subst hM
    simp only [slOwn, Option.isSome_none, Bool.false_eq_true, if_false]
    by_cases hw : (l == 0 && hh == xs.length) = true
    ·simp only [Bool.and_eq_true, beq_iff_eq] at hw
     obtain ⟨rfl, rfl⟩ := hw
     have e1 : (xs.take xs.length).drop 0 = xs := by simp
     have e2 : (if cap = 0 then p else p.add (0 * es)) = p := by
      split
      ·rfl
      ·rw [addr_eta (hsp (by omega)), addr_add]; simp
     rw [e1, e2]
     simp only [Nat.sub_zero]
     cases o with
     | nilS => exact absurd rfl hne
     | any => exact hx
     | full => exact .cl hxc
     | tok d g => simpa [sliceOwn] using hx
    ·have ho : sliceOwn o (l == 0 && hh == xs.length) = .any := by
      cases o with
      | nilS => exact absurd rfl hne
      | any => rfl
      | full => rfl
      | tok d g => simp only [sliceOwn]; rw [if_neg hw]
     rw [ho]
     exact .cl hcut
   | some mv =>
    simp only [Option.isSome_some, if_true] at hM
    subst hM
    have hnil : o.isNil = false := by cases o <;> simp_all [Own.isNil]
    simp only [slOwn, Option.isSome_some, if_true, hnil, Bool.false_eq_true, if_false]
    by_cases hw : (hh == m && decide (0 < m)) = true
    ·rw [if_pos hw]
     simp only [Bool.and_eq_true, beq_iff_eq] at hw
     obtain ⟨rfl, _⟩ := hw
     exact .cl (toFull hlen hcut)
    ·rw [if_neg hw]
     exact .cl hcut
theorem sliceRsl_sound {t e : TypeId} {e0 d b off es n cap : Nat} {x : Value} {v : AV} {lo hi mx : Option AV} {lo' hi' mx' : Option Value} (ht : P.underlying t = some (.slice e)) (hsz : sizeP P e = some e0)
  (hx : Rel G k nl (.rsl d b off es n cap) x) (hlo : OptRel G k nl lo lo') (hhi : OptRel G k nl hi hi') (hmx : OptRel G k nl mx mx') (h : sliceOp (.sl e0) (.rsl d b off es n cap) lo hi mx = some v) :
  ∃ z, (Instr.sliceAt t x lo' hi' mx').run P w = .ok z w ∧ Rel G k nl v z := by
 simp only [sliceOp] at h
 split at h
 case isFalse => cases h
 rename_i hee
 subst hee
 obtain ⟨m, em, h⟩ := Option.bind_eq_some_iff.1 h
 obtain ⟨hh, eh, h⟩ := Option.bind_eq_some_iff.1 h
 obtain ⟨l, el, rfl⟩ := Option.map_eq_some_iff.1 h
 obtain ⟨blk, gr, rc, o0, rfl, hd, hg, hbl, hn, hc, hw, ho⟩ := hx.inv_rsl
 obtain ⟨h1, h2, h3, hb⟩ := bounds_all (P := P) (w := w) (isSlice := true) (len := n) (cap := max n cap) (cap' := rc) hlo hhi hmx (Nat.le_max_left _ _) (Nat.max_le.2 ⟨hn, hc⟩) em eh el
 have hmr : m ≤ if mx.isSome then m else rc := by
  split
  ·exact Nat.le_refl _
  ·exact Nat.le_trans h3 (Nat.max_le.2 ⟨hn, hc⟩)
 have hfull : mx.isSome = true ∧ m = l → Rel G k nl (.slice .full es []) (.slice (some ⟨blk, if (if mx.isSome then m else rc) = l then o0 else o0 + l * es, none⟩) (hh - l) ((if mx.isSome then m else rc) - l)) := fun hc => by
  rw [if_pos hc.1]
  have e1 : hh - l = 0 := by omega
  have e2 : m - l = 0 := by omega
  rw [e1, e2]
  exact .cl (.empty (.inr rfl))
 generalize hM : (if mx.isSome then m else rc) = M at hb hmr hfull
 refine ⟨.slice (some ⟨blk, if M = l then o0 else o0 + l * es, none⟩) (hh - l) (M - l), ?_, ?_⟩
 rotate_left
 ·split
  ·rename_i hc; exact hfull hc
  refine .rsl gr hd hg hbl (Nat.sub_le_sub_right (Nat.le_trans h2 hmr) l) (Nat.sub_le_sub_right hmr l) (fun e1 e2 => by omega) (fun hp => ?_)
  have hlm : l < m := by omega
  have h0 : o0 = off := ho (by omega)
  rw [if_neg (by omega), if_neg (by omega), h0]
 ·simp only [Instr.sliceAt, Sem.run_bind, run_underlying ht, Result.andThen_ok, Instr.slice, hb, sizeOf_run hsz, Option.map_some, Sem.run_pure, addr_add]
  congr 2
  split <;> rfl
theorem sliceArr_sound {t e : TypeId} {N es : Nat} {a v : AV} {x : Value} {lo hi mx : Option AV} {lo' hi' mx' : Option Value} (ht : P.underlying t = some (.array N e)) (hsz : sizeP P e = some es)
  (hx : Rel G k nl a x) (hlo : OptRel G k nl lo lo') (hhi : OptRel G k nl hi hi') (hmx : OptRel G k nl mx mx') (h : sliceOp (.arr N es) a lo hi mx = some v) :
  ∃ z, (Instr.sliceAt t x lo' hi' mx').run P w = .ok z w ∧ Rel G k nl v z := by
 unfold sliceOp at h
 split at h <;> try contradiction
 ·rename_i n0 es0 d b off hk
  injection hk with hk1 hk2
  subst hk1 hk2
  split at h
  ·cases h
  rename_i hs
  have hn : mx = none := by cases mx with | none => rfl | some => simp at hs
  subst hn
  obtain ⟨hh, eh, h⟩ := Option.bind_eq_some_iff.1 h
  obtain ⟨l, el, rfl⟩ := Option.map_eq_some_iff.1 h
  obtain ⟨blk, gr, rfl, hd, hg, hbl⟩ := hx.inv_ptr
  obtain ⟨h1, h2, h3, hb⟩ := bounds_all (P := P) (w := w) (isSlice := false) (len := N) (cap := N) (cap' := N) hlo hhi hmx (Nat.le_refl _) (Nat.le_refl _) rfl eh el
  refine ⟨_, ?_, .rsl gr hd hg hbl (Nat.sub_le_sub_right h2 l) (Nat.le_refl _) (fun e1 e2 => by omega) (fun _ => rfl)⟩
  simp only [Instr.sliceAt, Sem.run_bind, run_underlying ht, Result.andThen_ok, Instr.sureAddr, hb, sizeOf_run hsz, Sem.run_pure, addr_add, Option.isSome_none, Bool.false_eq_true, if_false]
  congr 3
  split <;> rfl
 ·rename_i n0 es0 cs off hk
  injection hk with hk1 hk2
  subst hk1 hk2
  split at h
  ·cases h
  rename_i hs
  have hn : mx = none := by cases mx with | none => rfl | some => simp at hs
  subst hn
  obtain ⟨hh, eh, h⟩ := Option.bind_eq_some_iff.1 h
  obtain ⟨l, el, h⟩ := Option.bind_eq_some_iff.1 h
  split at h
  case isFalse => cases h
  rename_i hle
  injection h with h
  subst h
  obtain ⟨blk, o0, f, rfl, hcell, hI, hR⟩ := hx.inv_eptr
  obtain ⟨h1, h2, h3, hb⟩ := bounds_all (P := P) (w := w) (isSlice := false) (len := N) (cap := N) (cap' := N) hlo hhi hmx (Nat.le_refl _) (Nat.le_refl _) rfl eh el
  have hmul : l * es + (hh - l) * es ≤ N * es := by
   rw [← Nat.add_mul]
   exact Nat.mul_le_mul_right _ (by omega)
  have hrow := row_slice (cap := N - l) hcell hI hR (es := es) (n := hh - l) (off := off + l * es) (by omega) (Nat.sub_le_sub_right h2 l)
  have hlen := (chunks_spec es (hh - l) (cs.drop (off + l * es)) (by simp; omega)).1
  refine ⟨.slice (some (if N = l then ⟨blk, o0 + off, none⟩ else ⟨blk, o0 + (off + l * es), none⟩)) (hh - l) (N - l), ?_, ?_⟩
  ·simp only [Instr.sliceAt, Sem.run_bind, run_underlying ht, Result.andThen_ok, Instr.sureAddr, hb, sizeOf_run hsz, Sem.run_pure, addr_add, Option.isSome_none, Bool.false_eq_true, if_false]
   congr 3
   split
   ·rfl
   ·congr 1; omega
  ·by_cases hN : N = l
   ·subst hN
    have h0 : hh = N := by omega
    subst h0
    simp only [Nat.sub_self, chunks, if_true]
    exact .cl (.slice (xs := []) (fun _ _ => Go.undef) (.inl rfl) (Nat.le_refl _) (fun r hr => by cases hr) (fun r hr => by cases hr) (fun i hi => absurd hi (Nat.not_lt_zero _)) (fun i hi => absurd hi (Nat.not_lt_zero _)))
   ·rw [if_neg hN]
    have := Rel.cl (G := G) (k := k) (nl := nl) hrow
    unfold SliceC at hrow
    rw [hlen] at hrow
    exact .cl hrow
theorem sliceOp_sound {t : TypeId} {kd : SlKind} {a v : AV} {x : Value} {lo hi mx : Option AV} {lo' hi' mx' : Option Value} (ht : SlKindOk P t kd)
  (hx : Rel G k nl a x) (hlo : OptRel G k nl lo lo') (hhi : OptRel G k nl hi hi') (hmx : OptRel G k nl mx mx') (h : sliceOp kd a lo hi mx = some v) :
  ∃ z, (Instr.sliceAt t x lo' hi' mx').run P w = .ok z w ∧ Rel G k nl v z := by
 cases kd with
 | str =>
  cases a with
  | v q =>
   cases q with
   | string q => exact sliceStr_sound ht hx hlo hhi hmx h
   | _ => simp [sliceOp] at h
  | _ => simp [sliceOp] at h
 | sl e0 =>
  obtain ⟨e, ht, hs⟩ := ht
  cases a with
  | slice o es xs => exact sliceSl_sound ht hs hx hlo hhi hmx h
  | rsl d b off es n cap => exact sliceRsl_sound ht hs hx hlo hhi hmx h
  | _ => simp [sliceOp] at h
 | arr n es =>
  obtain ⟨e, ht, hs⟩ := ht
  exact sliceArr_sound ht hs hx hlo hhi hmx h
end
end Go.Ax

/-
  Elements, fields, built values and conversions.
-/
namespace Go.Ax
open Go.RowKit
section
variable {P : Program} {B0 : Nat} {w0 : World} {G : Ghost} {k nl : Nat} {w : World} {s : Sig}
theorem idx_rel {x : AV} {y : Value} {n j : Nat} (hx : Rel G k nl x y) (h : idx x n = some j) : ∃ kd z, y = .int kd z ∧ 0 ≤ z ∧ z < n ∧ z.toNat = j := by
 unfold idx at h
 split at h
 ·obtain rfl := hx.inv_v
  split at h
  ·rename_i hc
   injection h with h
   exact ⟨_, _, rfl, hc.1, hc.2, h⟩
  ·cases h
 ·cases h
theorem indexSl_sound {t e : TypeId} {es : Nat} {a i v : AV} {x y : Value} (ht : P.underlying t = some (.slice e)) (hs : sizeP P e = some es) (hx : Rel G k nl a x) (hy : Rel G k nl i y)
  (h : indexAddrOp none es a i = some v) : ∃ z, (Instr.indexAt t x y).run P w = .ok z w ∧ Rel G k nl v z := by
 unfold indexAddrOp at h
 split at h <;> try contradiction
 ·rename_i o e1 xs _
  split at h
  case isFalse => cases h
  rename_i he
  subst he
  obtain ⟨j, hj, h⟩ := Option.bind_eq_some_iff.1 h
  obtain ⟨r, hr, rfl⟩ := Option.map_eq_some_iff.1 h
  obtain ⟨kd, z, rfl, z0, z1, rfl⟩ := idx_rel hy hj
  obtain ⟨hjl, hr⟩ := List.getElem?_eq_some_iff.1 hr
  rcases hx.inv_slice with ⟨_, rfl, _⟩ | ⟨_, p, cap, rfl, hsp, hcap, hxc, _⟩
  ·simp at hjl
  ·refine ⟨.pointer (some (p.add (z.toNat * e1))), ?_, ?_⟩
   ·simp [Instr.indexAt, run_underlying ht, asIntOf, z0, z1, sizeOf_run hs]
   ·cases hxc with
    | empty => exact absurd hjl (Nat.not_lt_zero _)
    | @slice _ _ _ blk off _ f ho hc hes hcell hI hR =>
     rw [addr_add]
     subst hr
     refine .cl (.eptr (off := 0) (o0 := off + z.toNat * e1) (fun q => f z.toNat q) (fun c hc => hcell _ (List.getElem_mem hjl) c hc) (fun q hq => hI _ hjl q hq) (fun q hq => hR _ hjl q hq))
 ·rename_i d b off e1 n cap _
  split at h
  case isFalse => cases h
  rename_i he
  subst he
  obtain ⟨j, hj, rfl⟩ := Option.map_eq_some_iff.1 h
  obtain ⟨kd, z, rfl, z0, z1, rfl⟩ := idx_rel hy hj
  obtain ⟨blk, gr, rc, o0, rfl, hd, hg, hbl, hn, _, _, ho⟩ := hx.inv_rsl
  have ho := ho (.inl (by omega))
  subst ho
  refine ⟨.pointer (some ⟨blk, o0 + z.toNat * e1, none⟩), ?_, .ptr gr hd hg hbl⟩
  simp [Instr.indexAt, run_underlying ht, asIntOf, z0, z1, sizeOf_run hs, addr_add]
theorem indexArr_sound {t e : TypeId} {N es : Nat} {a i v : AV} {x y : Value} (ht : P.underlying t = some (.array N e)) (hs : sizeP P e = some es) (hx : Rel G k nl a x) (hy : Rel G k nl i y)
  (h : indexAddrOp (some N) es a i = some v) : ∃ z, (Instr.indexAt t x y).run P w = .ok z w ∧ Rel G k nl v z := by
 unfold indexAddrOp at h
 split at h <;> try contradiction
 ·rename_i n0 d b off hk
  injection hk with hk
  subst hk
  obtain ⟨j, hj, rfl⟩ := Option.map_eq_some_iff.1 h
  obtain ⟨kd, z, rfl, z0, z1, rfl⟩ := idx_rel hy hj
  obtain ⟨blk, gr, rfl, hd, hg, hbl⟩ := hx.inv_ptr
  refine ⟨.pointer (some ⟨blk, off + z.toNat * es, none⟩), ?_, .ptr gr hd hg hbl⟩
  simp [Instr.indexAt, run_underlying ht, asIntOf, z0, z1, sizeOf_run hs, addr_add, Instr.sureAddr]
 ·rename_i n0 cs off hk
  injection hk with hk
  subst hk
  obtain ⟨j, hj, rfl⟩ := Option.map_eq_some_iff.1 h
  obtain ⟨kd, z, rfl, z0, z1, rfl⟩ := idx_rel hy hj
  obtain ⟨blk, o0, f, rfl, hcell, hI, hR⟩ := hx.inv_eptr
  refine ⟨.pointer (some ⟨blk, o0 + (off + z.toNat * es), none⟩), ?_, .cl (.eptr f hcell hI hR)⟩
  simp [Instr.indexAt, run_underlying ht, asIntOf, z0, z1, sizeOf_run hs, addr_add, Instr.sureAddr, Nat.add_assoc]
theorem fieldAddr_sound {t : TypeId} {fs : Array Field} {f : Field} {i n : Nat} {a v : AV} {x : Value} (ht : P.underlying t = some (.struct fs)) (hf : fs[i]? = some f) (hn : sizeP P f.type = some n) (h0 : 0 < n)
  (hx : Rel G k nl a x) (h : ptrAdd f.offset a = some v) : ∃ z, (Instr.fieldAt t x i).run P w = .ok z w ∧ Rel G k nl v z := by
 have hne : n ≠ 0 := by omega
 unfold ptrAdd at h
 split at h <;> try contradiction
 ·rename_i d b off
  injection h with h
  subst h
  obtain ⟨blk, gr, rfl, hd, hg, hbl⟩ := hx.inv_ptr
  refine ⟨_, ?_, .ptr gr hd hg hbl⟩
  simp [Instr.fieldAt, run_underlying ht, hf, Instr.sureAddr, fieldPlace, sizeOf_run hn, hne, addr_add]
 ·rename_i cs off
  injection h with h
  subst h
  obtain ⟨blk, o0, g, rfl, hcell, hI, hR⟩ := hx.inv_eptr
  refine ⟨.pointer (some ⟨blk, o0 + (off + f.offset), none⟩), ?_, .cl (.eptr g hcell hI hR)⟩
  simp [Instr.fieldAt, run_underlying ht, hf, Instr.sureAddr, fieldPlace, sizeOf_run hn, hne, addr_add, Nat.add_assoc]
theorem indexStr_sound {t : TypeId} {a i v : AV} {x y : Value} (ht : P.underlying t = some .string) (hx : Rel G k nl a x) (hy : Rel G k nl i y)
  (h : indexStrOp a i = some v) : ∃ z, (Instr.index t x y).run P w = .ok z w ∧ Rel G k nl v z := by
 unfold indexStrOp at h
 split at h
 ·rename_i q
  obtain rfl := hx.inv_v
  obtain ⟨j, hj, h⟩ := Option.bind_eq_some_iff.1 h
  obtain ⟨b, hb, rfl⟩ := Option.map_eq_some_iff.1 h
  obtain ⟨kd, z, rfl, z0, z1, rfl⟩ := idx_rel hy hj
  refine ⟨_, ?_, .val _ rfl⟩
  simp only [Instr.index, asIntOf, Sem.run_bind, run_underlying ht, Result.andThen_ok, Sem.run_pure, if_pos z0, hb]
 ·cases h
theorem index_sound {t e : TypeId} {N es : Nat} {g : Bool} {a i v : AV} {x y : Value} (ht : P.underlying t = some (.array N e)) (hg : isAggP P e = some g) (hn : sizeP P e = some es) (hx : Rel G k nl a x) (hy : Rel G k nl i y)
  (h : indexOp N es g a i = some v) : ∃ z, (Instr.index t x y).run P w = .ok z w ∧ Rel G k nl v z := by
 unfold indexOp at h
 split at h
 ·rename_i cs
  obtain ⟨arr, rfl, hl, hcell, hR⟩ := hx.inv_agg
  obtain ⟨j, hj, h⟩ := Option.bind_eq_some_iff.1 h
  obtain ⟨kd, z, rfl, z0, z1, rfl⟩ := idx_rel hy hj
  rcases part_rel (f := fun i => arr.getD i Go.undef) h hcell hR with ⟨rfl, hle, hv⟩ | ⟨rfl, hlt, hv⟩
  ·refine ⟨_, ?_, hv⟩
   simp only [Instr.index, asIntOf, Sem.run_bind, run_underlying ht, Result.andThen_ok, Sem.run_pure, Go.part, isAgg_run hg, if_true, sizeOf_run hn]
   rw [if_pos ⟨z0, z1⟩]
   simp only [Sem.run_bind, Result.andThen_ok, sizeOf_run hn, isAgg_run hg, if_true, Sem.run_pure]
   congr 2
   apply Array.ext
   ·simp; omega
   ·intro j h1 h2
    simp at h1 h2 ⊢
    have : z.toNat * es + j < arr.size := by omega
    simp [Array.getD, this]
  ·refine ⟨_, ?_, hv⟩
   have : z.toNat * es < arr.size := by omega
   simp only [Instr.index, asIntOf, Sem.run_bind, run_underlying ht, Result.andThen_ok, Sem.run_pure, Go.part, sizeOf_run hn]
   rw [if_pos ⟨z0, z1⟩]
   simp only [Sem.run_bind, Result.andThen_ok, sizeOf_run hn, isAgg_run hg, Bool.false_eq_true, if_false, Sem.run_pure]
   simp [Array.getD, this]
 ·cases h
theorem foldl_setA : ∀ (vs : List Value) (n o : Nat) (arr : Array Value), (vs.zipIdx n).foldl (fun (cs : Array Value) (p : Value × Nat) => cs.setIfInBounds (o + p.2) p.1) arr = setA arr (o + n) vs
 | [], _, _, _ => rfl
 | v :: r, n, o, arr => by
  simp only [List.zipIdx_cons, List.foldl_cons, setA]
  rw [foldl_setA r (n + 1) o]
  rfl
theorem foldl_arr (cs : Array Value) (o : Nat) (arr : Array Value) : cs.zipIdx.foldl (fun (c : Array Value) (p : Value × Nat) => c.setIfInBounds (o + p.2) p.1) arr = setA arr o cs.toList := by
 rw [← Array.foldl_toList, Array.toList_zipIdx, foldl_setA, Nat.add_zero]
theorem fillOne {cs : List AV} {arr : Array Value} {o size : Nat} {x : AV} {v : Value} {cs' : List AV} (hrow : Row2 (Rel G k nl) cs arr) (hcell : ∀ c, c ∈ cs → c.isCell = true) (hx : Rel G k nl x v) (h : fillRow cs o size x = some cs') :
  v.cells.size = size ∧ o + size ≤ arr.size ∧ Row2 (Rel G k nl) cs' (setA arr o v.cells.toList) ∧ ∀ c, c ∈ cs' → c.isCell = true := by
 unfold fillRow at h
 split at h
 ·rename_i hc
  obtain ⟨h1, h2, h3⟩ := hc
  injection h with h
  subst h
  have hv := hx.cells h3
  refine ⟨hv.1.trans h1, by rw [hrow.1]; exact h2, Row2.setA (by simpa using hv.1) (fun i hi hj => ?_) o hrow, fun c hc => ?_⟩
  ·have := hv.2 i hi
   have he : v.cells.getD i Go.undef = v.cells.toList[i] := by
    have : i < v.cells.size := by simpa using hj
    simp [Array.getD, this]
   rw [← he]
   exact this
  ·rcases setCells_mem hc with hc | hc
   ·exact hcell c hc
   ·exact List.all_eq_true.1 h3 c hc
 ·cases h
theorem fill_sound {ρ : Nat → AV} {a : Act} (hR : TmpsRel G k nl ρ a) (place : Nat → Option (Nat × Nat)) : ∀ (parts : List (Nat × Operand)) (ps : List (Nat × Nat × AOpd)) (cs cs' : List AV) (arr : Array Value),
  compParts P place parts = some ps → Row2 (Rel G k nl) cs arr → (∀ c, c ∈ cs → c.isCell = true) → buildCells cs (evalT ρ) ps = some cs' →
  ∃ arr', Instr.fill place arr (parts.map fun p => (p.1, a.eval p.2)) = some arr' ∧ Row2 (Rel G k nl) cs' arr' ∧ ∀ c, c ∈ cs' → c.isCell = true
 | [], ps, cs, cs', arr, hp, hrow, hcell, h => by
  simp only [compParts] at hp
  injection hp with hp
  subst hp
  simp only [buildCells] at h
  injection h with h
  subst h
  exact ⟨arr, rfl, hrow, hcell⟩
 | (i, x) :: r, ps, cs, cs', arr, hp, hrow, hcell, h => by
  simp only [compParts] at hp
  split at hp
  ·rename_i off size y s' e1 e2 e3
   injection hp with hp
   subst hp
   simp only [buildCells] at h
   split at h
   ·rename_i cs1 hf
    have hx := opd_rel e2 hR
    obtain ⟨g1, g2, g3, g4⟩ := fillOne hrow hcell hx hf
    obtain ⟨arr', k1, k2, k3⟩ := fill_sound hR place r s' cs1 cs' _ e3 g3 g4 h
    refine ⟨arr', ?_, k2, k3⟩
    simp only [List.map_cons, Instr.fill, e1]
    rw [if_neg (by simp only [Bool.or_eq_true, bne_iff_ne, decide_eq_true_eq]; omega), foldl_arr]
    exact k1
   ·cases h
  ·cases hp
theorem zeroP_run {t : TypeId} {zs : List AV} (h : zeroP P t = some zs) : ∃ z, (P.info? t).bind (·.zero) = some z ∧ mapO ofCell z.cells.toList = some zs := by
 unfold zeroP at h
 obtain ⟨z, h1, h2⟩ := Option.bind_eq_some_iff.1 h
 exact ⟨z, h1, h2⟩
theorem places_run (w : World) : ∀ (fs : List Field), (∀ f, f ∈ fs → (sizeP P f.type).isSome = true) →
  (fs.mapM fun f => Functor.map (Prod.mk f.offset) (sizeOf f.type)).run P w = .ok (fs.map fun f => (f.offset, (sizeP P f.type).getD 0)) w
 | [], _ => by simp
 | f :: fs, h => by
  obtain ⟨n, hn⟩ := Option.isSome_iff_exists.1 (h f (by simp))
  simp [List.mapM_cons, sizeOf_run hn, places_run w fs (fun g hg => h g (by simp [hg])), hn]
theorem buildStruct_sound {t : TypeId} {zs cs : List AV} {fs : Array Field} {parts : Array (Nat × Operand)} {ps : List (Nat × Nat × AOpd)} {ρ : Nat → AV} {a : Act} (hR : TmpsRel G k nl ρ a) (hz : zeroP P t = some zs)
    (ht : P.underlying t = some (.struct fs)) (hf : fs.toList.all (fun f => (sizeP P f.type).isSome) = true)
    (hp : compParts P (fun i => match fs[i]? with
        | some f => (sizeP P f.type).map fun s => (f.offset, s)
        | none => none) parts.toList = some ps) (h : buildCells zs (evalT ρ) ps = some cs) :
    ∃ z, (Instr.build t (parts.map fun (i, x) => (i, a.eval x))).run P w = .ok z w ∧ Rel G k nl (.agg cs) z := by
  obtain ⟨z, h1, h2⟩ := zeroP_run hz
  obtain ⟨c1, c2, c3⟩ := cells_rel (I := G.I) h2
  obtain ⟨arr', k1, k2, k3⟩ := fill_sound hR _ parts.toList ps zs cs z.cells hp ⟨c1, fun i hi => .cl (c3 i hi)⟩ c2 h
  refine ⟨.agg arr', ?_, .agg k2.1 k3 k2.2⟩
  have hall : ∀ f, f ∈ fs.toList → (sizeP P f.type).isSome = true := List.all_eq_true.1 hf
  have hpl : (fun x : Nat => (fs.toList.map fun f : Field => (f.offset, (sizeP P f.type).getD 0)).toArray[x]?) = (fun i => match fs[i]? with
        | some f => (sizeP P f.type).map fun s => (f.offset, s)
        | none => none) := by
    funext i
    by_cases hi : i < fs.size
    · obtain ⟨n, hn⟩ := Option.isSome_iff_exists.1 (hall fs[i] (by simp))
      simp [hi, hn]
    · simp [hi]
  have hm : (parts.map fun (i, x) => (i, a.eval x)).toList = parts.toList.map fun p => (p.1, a.eval p.2) := by simp
  simp only [Instr.build, Sem.run_bind, zeroValue_run h1, Result.andThen_ok, run_underlying ht, Sem.run_pure, Array.mapM_eq_mapM_toList, Sem.run_map]
  have hpr := places_run w fs.toList hall
  have hpr' : (fs.toList.mapM fun f => (do pure (f.offset, ← sizeOf f.type) : Sem (Nat × Nat))).run P w = .ok (fs.toList.map fun f : Field => (f.offset, (sizeP P f.type).getD 0)) w := by
    rw [← hpr]
    rfl
  simp only [hpr', Sem.run_bind, Sem.run_map, Result.andThen_ok, hm, hpl, k1, Sem.run_pure]
theorem buildArr_sound {t e : TypeId} {N es : Nat} {zs cs : List AV} {parts : Array (Nat × Operand)} {ps : List (Nat × Nat × AOpd)} {ρ : Nat → AV} {a : Act} (hR : TmpsRel G k nl ρ a) (hz : zeroP P t = some zs)
  (ht : P.underlying t = some (.array N e)) (hs : sizeP P e = some es)
  (hp : compParts P (fun i => some (i * es, es)) parts.toList = some ps) (h : buildCells zs (evalT ρ) ps = some cs) :
  ∃ z, (Instr.build t (parts.map fun (i, x) => (i, a.eval x))).run P w = .ok z w ∧ Rel G k nl (.agg cs) z := by
 obtain ⟨z, h1, h2⟩ := zeroP_run hz
 obtain ⟨c1, c2, c3⟩ := cells_rel (I := G.I) h2
 obtain ⟨arr', k1, k2, k3⟩ := fill_sound hR _ parts.toList ps zs cs z.cells hp ⟨c1, fun i hi => .cl (c3 i hi)⟩ c2 h
 refine ⟨.agg arr', ?_, .agg k2.1 k3 k2.2⟩
 have hm : (parts.map fun (i, x) => (i, a.eval x)).toList = parts.toList.map fun p => (p.1, a.eval p.2) := by simp
 simp only [Instr.build, Sem.run_bind, zeroValue_run h1, Result.andThen_ok, run_underlying ht, Sem.run_pure, sizeOf_run hs, hm, k1]
end
end Go.Ax

/-
  Slices built or made, conversions, the least and the greatest.
-/
namespace Go.Ax
open Go.RowKit
section
variable {P : Program} {B0 : Nat} {w0 : World} {G : Ghost} {k nl : Nat} {w : World} {s : Sig}
theorem byte_getD {q : Array UInt8} {c : Nat} (h : c < q.size) : q.getD c 0 = q[c] := by
 unfold Array.getD
 rw [dif_pos h]
 rfl
theorem close_cell {x z : AV} (h : x.close = some z) : x.isCell = true ∧ z.isCell = true := by
 have hx : x.isCell = true := by
  unfold AV.close at h
  split at h
  ·rfl
  ·split at h
   ·rename_i hc
    cases x with
    | v q => cases q <;> first | rfl | (simp [AV.isClosed, AV.isClosed1] at hc)
    | agg => simp [AV.isClosed, AV.isClosed1] at hc
    | tuple => simp [AV.isClosed, AV.isClosed1] at hc
    | _ => rfl
   ·cases h
 exact ⟨hx, close_isCell h hx⟩
theorem setA_getD {q : Nat} : ∀ (vs : List Value) (o : Nat) (arr : Array Value), o + vs.length ≤ arr.size → (setA arr o vs).getD q Go.undef = if o ≤ q ∧ q < o + vs.length then vs.getD (q - o) Go.undef else arr.getD q Go.undef
 | [], o, arr, _ => by
  rw [if_neg (by simp)]
  rfl
 | v :: r, o, arr, h => by
  simp only [List.length_cons] at h
  simp only [setA]
  rw [setA_getD r (o + 1) _ (by simp; omega)]
  simp only [List.length_cons]
  by_cases h1 : o + 1 ≤ q ∧ q < o + 1 + r.length
  ·rw [if_pos h1, if_pos (by omega)]
   have : q - o = (q - (o + 1)) + 1 := by omega
   rw [this, List.getD_cons_succ]
  ·rw [if_neg h1]
   by_cases h2 : q = o
   ·subst h2
    rw [if_pos (by omega), Nat.sub_self]
    have : q < arr.size := by omega
    simp [Array.getD, this]
   ·rw [if_neg (by omega)]
    by_cases hq : q < arr.size
    ·simp [Array.getD, hq, Ne.symm h2]
    ·simp [Array.getD, hq]
structure Rows (I : IMap) (es : Nat) (rows : List (List AV)) (arr : Array Value) : Prop where
 size : arr.size = rows.length * es
 len : ∀ r, r ∈ rows → r.length = es
 cell : ∀ r, r ∈ rows → ∀ c, c ∈ r → c.isCell = true
 rel : ∀ i (hi : i < rows.length) j (hj : j < rows[i].length), RelC I (rows[i][j]) (arr.getD (i * es + j) Go.undef)
theorem row_lt {i j n es : Nat} (hi : i < n) (hj : j < es) : i * es + j < n * es := by
 calc i * es + j < i * es + es := by omega
  _ = (i + 1) * es := by rw [Nat.add_mul, Nat.one_mul]
  _ ≤ n * es := Nat.mul_le_mul_right _ hi
theorem row_apart {i q j es : Nat} (hj : j < es) (hne : q ≠ i) : ¬ (i * es ≤ q * es + j ∧ q * es + j < i * es + es) := by
 intro ⟨h1, h2⟩
 rcases Nat.lt_or_gt_of_ne hne with h | h
 ·have := row_lt (es := es) h hj
  omega
 ·have : (i + 1) * es ≤ q * es := Nat.mul_le_mul_right _ h
  rw [Nat.add_mul, Nat.one_mul] at this
  omega
theorem Rows.set {I : IMap} {es : Nat} {rows : List (List AV)} {arr : Array Value} (h : Rows I es rows arr) {i : Nat} (hi : i < rows.length) {cs : List AV} {vs : Array Value} (hl : cs.length = es) (hcell : ∀ c, c ∈ cs → c.isCell = true)
  (hR : Row2 (RelC I) cs vs) : Rows I es (rows.set i cs) (setA arr (i * es) vs.toList) := by
 have hvs : vs.toList.length = es := by simp [hR.1, hl]
 have hle : i * es + es ≤ rows.length * es := by
  have : (i + 1) * es ≤ rows.length * es := Nat.mul_le_mul_right _ hi
  rwa [Nat.add_mul, Nat.one_mul] at this
 refine ⟨by rw [setA_size, List.length_set]; exact h.size, fun r hr => ?_, fun r hr => ?_, fun q hq j hj => ?_⟩
 ·rcases List.mem_or_eq_of_mem_set hr with hr | rfl
  ·exact h.len r hr
  ·exact hl
 ·rcases List.mem_or_eq_of_mem_set hr with hr | rfl
  ·exact h.cell r hr
  ·exact hcell
 ·have hq' : q < rows.length := by simpa using hq
  rw [setA_getD _ _ _ (by rw [hvs, h.size]; exact hle), hvs]
  by_cases he : i = q
  ·subst he
   simp only [List.getElem_set_self] at hj ⊢
   rw [if_pos (by omega)]
   have e1 : i * es + j - i * es = j := by omega
   rw [e1]
   have := hR.2 j hj
   have e2 : vs.toList.getD j Go.undef = vs.getD j Go.undef := by
    have : j < vs.size := by rw [hR.1]; exact hj
    simp [Array.getD, this]
   rw [e2]
   exact this
  ·simp only [List.getElem_set_ne he] at hj ⊢
   have hj' : j < es := by rw [← h.len _ (List.getElem_mem hq')]; exact hj
   rw [if_neg (row_apart hj' (Ne.symm he))]
   exact h.rel q hq' j hj
theorem rows_sound {ρ : Nat → AV} {a : Act} (hR : TmpsRel G k nl ρ a) {es : Nat} : ∀ (parts : List (Nat × Operand)) (ps : List (Nat × AOpd)) (rows rows' : List (List AV)) (arr : Array Value),
  compRows parts = some ps → Rows G.I es rows arr → buildRows rows (evalT ρ) ps = some rows' →
  ∃ arr', Instr.fill (fun i => some (i * es, es)) arr (parts.map fun p => (p.1, a.eval p.2)) = some arr' ∧ Rows G.I es rows' arr' ∧ rows'.length = rows.length
 | [], ps, rows, rows', arr, hp, hrow, h => by
  simp only [compRows] at hp
  injection hp with hp
  subst hp
  simp only [buildRows] at h
  injection h with h
  subst h
  exact ⟨arr, rfl, hrow, rfl⟩
 | (i, x) :: r, ps, rows, rows', arr, hp, hrow, h => by
  simp only [compRows] at hp
  split at hp
  ·rename_i y s' e2 e3
   injection hp with hp
   subst hp
   simp only [buildRows] at h
   split at h
   ·rename_i row cs f1 f2
    split at h
    ·rename_i hlen
     obtain ⟨hi, hrow'⟩ := List.getElem?_eq_some_iff.1 f1
     have hrl : row.length = es := hrow.len _ (hrow' ▸ List.getElem_mem hi)
     have hx := opd_rel e2 hR
     obtain ⟨c1, c2⟩ := closeAll_spec f2
     have hall : (evalT ρ y).cells.all AV.isCell = true := by
      rw [List.all_eq_true]
      intro c hc
      obtain ⟨j, hj, rfl⟩ := List.getElem_of_mem hc
      exact (close_cell (c2 j hj (by omega))).1
     have hcv := hx.cells hall
     have hrel : Row2 (RelC G.I) cs (a.eval x).cells := ⟨by rw [hcv.1, c1], fun j hj => (hcv.2 j (by omega)).close (c2 j (by omega) hj)⟩
     have hcc : ∀ c, c ∈ cs → c.isCell = true := fun c hc => by
      obtain ⟨j, hj, rfl⟩ := List.getElem_of_mem hc
      exact (close_cell (c2 j (by omega) hj)).2
     have hset := hrow.set hi (hlen.trans hrl) hcc hrel
     obtain ⟨arr', k1, k2, k3⟩ := rows_sound hR r s' _ rows' _ e3 hset h
     refine ⟨arr', ?_, k2, by rw [k3]; simp⟩
     simp only [List.map_cons, Instr.fill]
     have hsz : (a.eval x).cells.size = es := by rw [hrel.1, hlen, hrl]
     have hle : i * es + es ≤ rows.length * es := by
      have : (i + 1) * es ≤ rows.length * es := Nat.mul_le_mul_right _ hi
      rwa [Nat.add_mul, Nat.one_mul] at this
     have hs2 := hrow.size
     rw [if_neg (by simp only [Bool.or_eq_true, bne_iff_ne, decide_eq_true_eq, hsz]; omega), foldl_arr]
     exact k1
    ·cases h
   ·cases h
  ·cases hp
theorem Rows.slice {I : IMap} {es b cap : Nat} {rows : List (List AV)} {arr : Array Value} (h : Rows I es rows arr) (hI : ∀ i, i < arr.size → I b i = arr[i]?) (hcap : rows.length ≤ cap) : SliceC I es rows ⟨b, 0, none⟩ cap := by
 refine SliceC.mk (fun c => arr.getD c Go.undef) hcap h.len h.cell (fun c hc => ?_) h.rel
 rw [Nat.zero_add, hI c (by rw [h.size]; exact hc)]
 have : c < arr.size := by rw [h.size]; exact hc
 simp [Array.getD, this]
theorem Rows.mono {I I' : IMap} {es : Nat} {rows : List (List AV)} {arr : Array Value} (h : Rows I es rows arr) (hI : ∀ b i v, I b i = some v → I' b i = some v) : Rows I' es rows arr :=
 ⟨h.size, h.len, h.cell, fun i hi j hj => (h.rel i hi j hj).mono hI⟩
theorem newI (h : At P B0 w0 G k nl s w) {es n : Nat} {rows : List (List AV)} {arr : Array Value} (ty : TypeId) (hr : Rows G.I es rows arr) (hn : rows.length = n) :
  StepTo P B0 w0 G k nl s s (w.alloc (.cells arr ty)) (.slice .full es rows) (.slice (some ⟨w.heap.size, 0, none⟩) n n) := by
 subst hn
 have hle := G.addI_le w.heap.size arr h.rel.I_new (k + 1) s.loops.length
 have hs := h.rel.allocI arr ty (0, 0)
 refine ⟨_, h.to hs (hle.less (by omega) h.nle) rfl, hle, rfl, .cl (toFull rfl ?_)⟩
 refine (hr.mono hle.I).slice (fun i hi => ?_) (Nat.le_refl _)
 simp [Ghost.addI]
theorem flat_get (zs : List AV) (h : 0 < zs.length) : ∀ (n q : Nat), q < n * zs.length → ((List.replicate n zs).flatten)[q]? = zs[q % zs.length]?
 | 0, q, hq => by simp at hq
 | n + 1, q, hq => by
  simp only [List.replicate_succ, List.flatten_cons]
  by_cases hlt : q < zs.length
  ·rw [List.getElem?_append_left hlt, Nat.mod_eq_of_lt hlt]
  ·rw [Nat.add_mul, Nat.one_mul] at hq
   rw [List.getElem?_append_right (by omega), flat_get zs h n _ (by omega), ← Nat.mod_eq_sub_mod (by omega)]
theorem flat_len (zs : List AV) (n : Nat) : (List.replicate n zs).flatten.length = n * zs.length := by simp
theorem zero_get {I : IMap} {z : Value} {zs : List AV} (hz : mapO ofCell z.cells.toList = some zs) (h0 : 0 < zs.length) (q : Nat) : RelC I (zs[q % zs.length]'(Nat.mod_lt _ h0)) (z.cells[q % z.cells.size]!) := by
 obtain ⟨c1, c2, c3⟩ := cells_rel (I := I) hz
 have hlt : q % zs.length < z.cells.size := by rw [c1]; exact Nat.mod_lt _ h0
 have := c3 (q % zs.length) (Nat.mod_lt _ h0)
 rw [c1]
 have e : z.cells[q % zs.length]! = z.cells.getD (q % zs.length) Go.undef := by simp [Array.getD, hlt]
 rw [e]
 exact this
theorem zero_rows {I : IMap} {es n : Nat} {z : Value} {zs : List AV} (hz : mapO ofCell z.cells.toList = some zs) (hl : zs.length = es) (h0 : 0 < es) : Rows I es (List.replicate n zs) ((Array.range (n * es)).map (z.cells[· % z.cells.size]!)) := by
 obtain ⟨c1, c2, c3⟩ := cells_rel (I := I) hz
 refine ⟨by simp, fun r hr => ?_, fun r hr => ?_, fun i hi j hj => ?_⟩
 ·rw [(List.mem_replicate.1 hr).2]; exact hl
 ·rw [(List.mem_replicate.1 hr).2]; exact c2
 ·have hi' : i < n := by simpa using hi
  have hj' : j < es := by simp only [List.getElem_replicate] at hj; omega
  have hlt : i * es + j < n * es := row_lt hi' hj'
  have hm : (i * es + j) % es = j := by rw [Nat.mul_comm, Nat.mul_add_mod, Nat.mod_eq_of_lt hj']
  have := zero_get (I := I) hz (by omega) (i * es + j)
  simp only [hl, hm] at this
  have e : ((Array.range (n * es)).map (z.cells[· % z.cells.size]!)).getD (i * es + j) Go.undef = z.cells[(i * es + j) % z.cells.size]! := by simp [Array.getD, hlt]
  rw [e]
  simp only [List.getElem_replicate]
  exact this
theorem buildSlice_sound (h : At P B0 w0 G k nl s w) {t e : TypeId} {es len : Nat} {zs : List AV} {rows : List (List AV)} {parts : Array (Nat × Operand)} {ps : List (Nat × AOpd)} {ρ : Nat → AV} {a : Act} (hR : TmpsRel G k nl ρ a)
  (ht : P.underlying t = some (.slice e)) (hs : sizeP P e = some es) (hz : zeroP P e = some zs) (hp : compRows parts.toList = some ps) (hle : len * es ≤ 2 ^ 24) (hl : zs.length = es) (h0 : 0 < es)
  (hb : buildRows (List.replicate len zs) (evalT ρ) ps = some rows) :
  ∃ z w', (Instr.buildSlice t len (parts.map fun (i, x) => (i, a.eval x))).run P w = .ok z w' ∧ StepTo P B0 w0 G k nl s s w' (.slice .full es rows) z := by
 obtain ⟨z, h1, h2⟩ := zeroP_run hz
 have hrows := zero_rows (I := G.I) (n := len) h2 hl h0
 have hm : (parts.map fun (i, x) => (i, a.eval x)).toList = parts.toList.map fun p => (p.1, a.eval p.2) := by simp
 obtain ⟨arr', k1, k2, k3⟩ := rows_sound hR parts.toList ps _ rows _ hp hrows hb
 have hlen : rows.length = len := by rw [k3]; simp
 refine ⟨_, _, ?_, newI h e k2 hlen⟩
 have hngt : ¬ (len * es > 2 ^ 24) := by omega
 by_cases hn : len * es = 0
 ·have hl0 : len = 0 := by
   rcases Nat.mul_eq_zero.1 hn with h' | h'
   ·exact h'
   ·omega
  subst hl0
  simp only [Nat.zero_mul, Array.range_zero', Array.map_empty] at k1
  have e0 : ((Array.range 0).map fun x : Nat => ((#[] : Array Value)[x % (#[] : Array Value).size]!)) = #[] := by simp
  simp only [Instr.buildSlice, Sem.run_bind, run_underlying ht, Result.andThen_ok, sizeOf_run hs, if_neg hngt, if_pos hn, Sem.run_pure, hm]
  simp only [Nat.zero_mul, e0, k1, newRow, run_newObj, Sem.run_bind, Result.andThen_ok, Sem.run_pure]
  rfl
 ·simp only [Instr.buildSlice, Sem.run_bind, run_underlying ht, Result.andThen_ok, sizeOf_run hs, if_neg hngt, if_neg hn, zeroValue_run h1, Sem.run_pure, hm, k1, newRow, run_newObj]
  rfl
theorem mkSlice_sound (h : At P B0 w0 G k nl s w) {t e : TypeId} {es by_ : Nat} {zs : List AV} {l c v : AV} {lv cv : Value} {s' : Sig} (ht : P.underlying t = some (.slice e)) (hs : sizeP P e = some es) (hby : bytesP P e = some by_)
  (hz : zeroP P e = some zs) (hl : zs.length = es) (h0 : 0 < es) (hble : by_ ≤ 4096) (hx : Rel G k nl l lv) (hy : Rel G k nl c cv) (hm : mkSliceOp s es zs l c = some (v, s')) :
  ∃ z w', (Instr.makeSlice t lv cv).run P w = .ok z w' ∧ StepTo P B0 w0 G k nl s s' w' v z := by
 unfold mkSliceOp at hm
 obtain ⟨cn, hc, hm⟩ := Option.bind_eq_some_iff.1 hm
 obtain ⟨ln, hln, hm⟩ := Option.map_eq_some_iff.1 hm
 obtain ⟨kc, zc, rfl, zc0, zc1, rfl⟩ := asNat_rel hy hc
 obtain ⟨kl, zl, rfl, zl0, zl1, rfl⟩ := asNat_rel hx hln
 obtain ⟨z, h1, h2⟩ := zeroP_run hz
 obtain ⟨i, hi, rfl⟩ := info_of hby
 have hsz : i.size = es := by
  unfold sizeP at hs
  rw [hi] at hs
  simpa using hs
 have hzi : i.zero = some z := by
  rw [hi] at h1
  simpa using h1
 have hzc : zl ≤ zc := by omega
 have hmost : zc ≤ 4294967296 := by unfold most at zc1; exact zc1
 have hbytes : (i.bytes : Int) * zc ≤ 281474976710656 := by
  calc (i.bytes : Int) * zc ≤ 4096 * zc := Int.mul_le_mul_of_nonneg_right (by omega) zc0
   _ ≤ 281474976710656 := by omega
 have hrun := run_make (P := P) w t e i z ht hi hzi kl kc zl zc zl0 hzc hbytes (by omega)
 rw [hsz] at hrun
 refine ⟨_, _, hrun, ?_⟩
 split at hm
 ·rename_i he
  injection hm with hm1 hm2
  subst hm1 hm2
  have hz0 : zc.toNat = 0 := by
   have hle := flat_len zs zc.toNat
   have he' : (List.replicate zc.toNat zs).flatten = [] := by simpa using he
   rw [he', List.length_nil, hl] at hle
   rcases Nat.mul_eq_zero.1 hle.symm with h' | h'
   ·exact h'
   ·omega
  have hz1 : zl.toNat = 0 := by omega
  rw [hz0, hz1]
  exact ⟨_, h.to (h.rel.allocI _ _ _) (G.addI_le _ _ h.rel.I_new _ _) rfl, G.addI_le _ _ h.rel.I_new _ _, rfl, .cl (.empty (.inr rfl))⟩
 rename_i hne
 injection hm with hm1 hm2
 subst hm1 hm2
 have hrow : Row2 (Rel G k nl) (List.replicate zc.toNat zs).flatten (madeCells z.cells (zc.toNat * es)) := by
  refine ⟨by rw [size_madeCells, flat_len, hl], fun q hq => ?_⟩
  rw [flat_len] at hq
  have hg := flat_get zs (by omega) zc.toNat q hq
  have hmod : q % zs.length < zs.length := Nat.mod_lt _ (by omega)
  rw [List.getElem?_eq_getElem hmod, List.getElem?_eq_getElem (by rw [flat_len]; exact hq)] at hg
  injection hg with hg
  rw [hg]
  have := zero_get (I := G.I) h2 (by omega) q
  have e : (madeCells z.cells (zc.toNat * es)).getD q Go.undef = z.cells[q % z.cells.size]! := by
   have : q < zc.toNat * es := by rw [← hl]; exact hq
   simp [madeCells, Array.getD, this]
  rw [e]
  exact .cl this
 have hcells : ∀ c, c ∈ (List.replicate zc.toNat zs).flatten → c.isCell = true := fun c hc => by
  obtain ⟨r, hr, hc⟩ := List.mem_flatten.1 hc
  rw [(List.mem_replicate.1 hr).2] at hc
  exact (cells_rel (I := G.I) h2).2.1 c hc
 exact (newBox_sound h e none (fun _ e => by cases e) (fun e => hne (by rw [e]; rfl)) hcells hrow.le).2.2 es zl.toNat zc.toNat zc.toNat (by omega) (Nat.le_refl _) (fun e1 e2 => by omega)
theorem mkVal_sound (h : At P B0 w0 G k nl s w) {t e : TypeId} {es by_ : Nat} {zs : List AV} {l c v : AV} {lv cv : Value} (ht : P.underlying t = some (.slice e)) (hs : sizeP P e = some es) (hby : bytesP P e = some by_)
  (hz : zeroP P e = some zs) (hl : zs.length = es) (h0 : 0 < es) (hble : by_ ≤ 4096) (hx : Rel G k nl l lv) (hy : Rel G k nl c cv) (hm : mkValOp es zs l c = some v) :
  ∃ z w', (Instr.makeSlice t lv cv).run P w = .ok z w' ∧ StepTo P B0 w0 G k nl s s w' v z := by
 unfold mkValOp at hm
 obtain ⟨cn, hc, hm⟩ := Option.bind_eq_some_iff.1 hm
 obtain ⟨ln, hln, hm⟩ := Option.bind_eq_some_iff.1 hm
 obtain ⟨kc, zc, rfl, zc0, zc1, rfl⟩ := asNat_rel hy hc
 obtain ⟨kl, zl, rfl, zl0, zl1, rfl⟩ := asNat_rel hx hln
 obtain ⟨z, h1, h2⟩ := zeroP_run hz
 obtain ⟨i, hi, rfl⟩ := info_of hby
 have hsz : i.size = es := by
  unfold sizeP at hs
  rw [hi] at hs
  simpa using hs
 have hzi : i.zero = some z := by
  rw [hi] at h1
  simpa using h1
 have hzc : zl ≤ zc := by omega
 have hmost : zc ≤ 4294967296 := by unfold most at zc1; exact zc1
 have hbytes : (i.bytes : Int) * zc ≤ 281474976710656 := by
  calc (i.bytes : Int) * zc ≤ 4096 * zc := Int.mul_le_mul_of_nonneg_right (by omega) zc0
   _ ≤ 281474976710656 := by omega
 have hrun := run_make (P := P) w t e i z ht hi hzi kl kc zl zc zl0 hzc hbytes (by omega)
 rw [hsz] at hrun
 refine ⟨_, _, hrun, ?_⟩
 split at hm
 ·cases hm
 rename_i hne
 injection hm with hm
 subst hm
 have heq : zl.toNat = zc.toNat := Classical.byContradiction fun q => hne q
 rw [heq]
 refine newI h e (arr := madeCells z.cells (zc.toNat * es)) ?_ (by simp)
 have hr := zero_rows (I := G.I) (n := zc.toNat) h2 hl h0
 exact hr
theorem mkSlicem_sound (h : At P B0 w0 G k nl s w) {t e : TypeId} {es by_ : Nat} {zs : List AV} {l c v : AV} {lv cv : Value} {s' : Sig} (ht : P.underlying t = some (.slice e)) (hs : sizeP P e = some es) (hby : bytesP P e = some by_)
  (hz : zeroP P e = some zs) (hl : zs.length = es) (h0 : 0 < es) (hble : by_ ≤ 4096) (hx : Rel G k nl l lv) (hy : Rel G k nl c cv) (hm : mkSlicemOp s es zs l c = some (v, s')) :
  ∃ z w', (Instr.makeSlice t lv cv).run P w = .ok z w' ∧ StepTo P B0 w0 G k nl s s' w' v z := by
 unfold mkSlicemOp at hm
 obtain ⟨cn, hc, hm⟩ := Option.bind_eq_some_iff.1 hm
 obtain ⟨ln, hln, hm⟩ := Option.bind_eq_some_iff.1 hm
 obtain ⟨kc, zc, rfl, zc0, zc1, rfl⟩ := asNat_rel hy hc
 obtain ⟨kl, zl, rfl, zl0, zl1, rfl⟩ := asNat_rel hx hln
 obtain ⟨z, h1, h2⟩ := zeroP_run hz
 obtain ⟨i, hi, rfl⟩ := info_of hby
 have hsz : i.size = es := by
  unfold sizeP at hs
  rw [hi] at hs
  simpa using hs
 have hzi : i.zero = some z := by
  rw [hi] at h1
  simpa using h1
 have hzc : zl ≤ zc := by omega
 have hmost : zc ≤ 4294967296 := by unfold most at zc1; exact zc1
 have hbytes : (i.bytes : Int) * zc ≤ 281474976710656 := by
  calc (i.bytes : Int) * zc ≤ 4096 * zc := Int.mul_le_mul_of_nonneg_right (by omega) zc0
   _ ≤ 281474976710656 := by omega
 have hrun := run_make (P := P) w t e i z ht hi hzi kl kc zl zc zl0 hzc hbytes (by omega)
 rw [hsz] at hrun
 refine ⟨_, _, hrun, ?_⟩
 split at hm
 ·cases hm
 rename_i hne
 injection hm with hm
 injection hm with hm1 hm2
 subst hm1 hm2
 have heq : zl.toNat = zc.toNat := Classical.byContradiction fun q => hne (.inr q)
 rw [heq]
 have hrow : Row2 (Rel G k nl) (List.replicate zc.toNat zs).flatten (madeCells z.cells (zc.toNat * es)) := by
  refine ⟨by rw [size_madeCells, flat_len, hl], fun q hq => ?_⟩
  rw [flat_len] at hq
  have hg := flat_get zs (by omega) zc.toNat q hq
  have hmod : q % zs.length < zs.length := Nat.mod_lt _ (by omega)
  rw [List.getElem?_eq_getElem hmod, List.getElem?_eq_getElem (by rw [flat_len]; exact hq)] at hg
  injection hg with hg
  rw [hg]
  have := zero_get (I := G.I) h2 (by omega) q
  have e : (madeCells z.cells (zc.toNat * es)).getD q Go.undef = z.cells[q % z.cells.size]! := by
   have : q < zc.toNat * es := by rw [← hl]; exact hq
   simp [madeCells, Array.getD, this]
  rw [e]
  exact .cl this
 have hcells : ∀ c, c ∈ (List.replicate zc.toNat zs).flatten → c.isCell = true := fun c hc => by
  obtain ⟨r, hr, hc⟩ := List.mem_flatten.1 hc
  rw [(List.mem_replicate.1 hr).2] at hc
  exact (cells_rel (I := G.I) h2).2.1 c hc
 exact (newBox_sound h e (some (zc.toNat * es)) (fun n hn => by injection hn with hn; rw [size_madeCells, hn]) (fun e => hne (.inl (by rw [e]; rfl))) hcells hrow.le).2.2 es zc.toNat 0 zc.toNat (Nat.le_refl _) (Nat.zero_le _) (fun _ _ => rfl)
theorem bytesOf_spec {xs : List (List AV)} {l : List UInt8} (hl : bytesOf xs = some l) : l.length = xs.length ∧ ∀ i (hi : i < xs.length) (hj : i < l.length), xs[i] = [.v (.int .u8 (l[i].toNat : Int))] := by
 induction xs generalizing l with
 | nil => simp only [bytesOf] at hl; injection hl with hl; subst hl; simp
 | cons x r ih =>
  simp only [bytesOf] at hl
  split at hl
  ·rename_i b s' hb hs'
   injection hl with hl
   subst hl
   obtain ⟨i1, i2⟩ := ih hs'
   refine ⟨by simp [i1], fun i hi hj => ?_⟩
   cases i with
   | zero =>
    simp only [List.getElem_cons_zero]
    unfold byteOf at hb
    split at hb
    ·split at hb
     ·rename_i n hn
      injection hb with hb
      subst hb
      have : ((UInt8.ofNat n.toNat).toNat : Int) = n := by
       rw [UInt8.toNat_ofNat']
       omega
      rw [this]
     ·cases hb
    ·cases hb
   | succ i => simpa using i2 i (by simpa using hi) (by simpa using hj)
  ·cases hl
theorem conv_sound (h : At P B0 w0 G k nl s w) {src dst : TypeId} {x : Operand} {ax : AOpd} {op : AOp} {kd : ConvKind} {a v : AV} {y : Value} (hc : compConv P src dst ax = some (.conv kd ax)) (hx : Rel G k nl a y) (hv : convOp kd a = some v) :
  ∃ z w', (convert src dst y).run P w = .ok z w' ∧ StepTo P B0 w0 G k nl s s w' v z := by
 unfold compConv at hc
 split at hc
 ·rename_i k1 k2 hs hd
  injection hc with hc
  injection hc with hc
  subst hc
  cases a with
  | v q =>
   obtain rfl := hx.inv_v
   cases y with
   | int k3 n =>
    simp only [convOp] at hv
    injection hv with hv
    subst hv
    exact ⟨_, w, by simp [convert, run_underlying hs, run_underlying hd, Conv.intToInt], .same h (.val _ rfl)⟩
   | _ => simp [convOp] at hv
  | _ => simp [convOp] at hv
 ·rename_i hs hd
  injection hc with hc
  injection hc with hc
  subst hc
  cases a with
  | v q =>
   obtain rfl := hx.inv_v
   cases y with
   | string q =>
    simp only [convOp] at hv
    injection hv with hv
    subst hv
    exact ⟨_, w, by simp [convert, run_underlying hs, run_underlying hd], .same h (.val _ rfl)⟩
   | _ => simp [convOp] at hv
  | _ => simp [convOp] at hv
 ·rename_i e hs hd
  split at hc
  ·rename_i he
   injection hc with hc
   injection hc with hc
   subst hc
   cases a with
   | v q =>
    obtain rfl := hx.inv_v
    cases y with
    | string q =>
     simp only [convOp] at hv
     injection hv with hv
     subst hv
     refine ⟨_, _, run_bytes_of_string w src dst e q hs hd he, ?_⟩
     have hrel := (h.rel.drew).allocI (bytesRow q (grownCap w q.size 0 e)) e ((bytesRow q (grownCap w q.size 0 e)).size, (bytesRow q (grownCap w q.size 0 e)).size + 1)
     have hle := G.addI_le w.heap.size (bytesRow q (grownCap w q.size 0 e)) h.rel.I_new (k + 1) s.loops.length
     refine ⟨_, h.to hrel (hle.less (by omega) h.nle) rfl, hle, rfl, .cl ?_⟩
     have hlen : (byteCells q).length = q.size := by simp only [byteCells, List.length_map, Array.length_toList]; rfl
     have hget : ∀ i (hi : i < (byteCells q).length), (byteCells q)[i] = [.v (.int .u8 ((q.data[i]'(by rw [hlen] at hi; exact hi)).toNat : Int))] := fun i hi => by
      simp [byteCells]
     have : SliceC ((G.addI w.heap.size (bytesRow q (grownCap w q.size 0 e))).I) 1 (byteCells q) ⟨w.heap.size, 0, none⟩ (grownCap w q.size 0 e) := by
      refine SliceC.mk (fun c => (.int .u8 ((q.data.getD c 0).toNat : Int))) (by rw [hlen]; exact grownCap_ge _ _ _ _) (fun r hr => ?_) (fun r hr c hc => ?_) (fun c hc => ?_) (fun i hi j hj => ?_)
      ·obtain ⟨i, hi, rfl⟩ := List.getElem_of_mem hr
       rw [hget i hi]; rfl
      ·obtain ⟨i, hi, rfl⟩ := List.getElem_of_mem hr
       rw [hget i hi] at hc
       simp only [List.mem_singleton] at hc
       subst hc
       rfl
      ·rw [hlen, Nat.mul_one] at hc
       simp only [Ghost.addI, if_true, Nat.zero_add]
       have hc' : c < q.data.size := hc
       rw [bytesRow_at q _ c hc', byte_getD hc']
      ·have hi' : i < q.data.size := by rw [hlen] at hi; exact hi
       have hj0 : j = 0 := by rw [hget i hi] at hj; simpa using hj
       subst hj0
       simp only [hget i hi, List.getElem_cons_zero, Nat.mul_one, Nat.add_zero]
       rw [byte_getD hi']
       exact .v rfl
     unfold SliceC at this
     rw [hlen] at this
     exact this
    | _ => simp [convOp] at hv
   | _ => simp [convOp] at hv
  ·cases hc
 ·rename_i e hs hd
  split at hc
  ·rename_i he
   injection hc with hc
   injection hc with hc
   subst hc
   cases a with
   | slice o es xs =>
    simp only [convOp] at hv
    obtain ⟨l, hl, rfl⟩ := Option.map_eq_some_iff.1 hv
    rcases hx.inv_slice with ⟨_, rfl, rfl⟩ | ⟨_, p, cap, rfl, hsp, hcap, hxc, _⟩
    ·simp only [bytesOf] at hl
     injection hl with hl
     subst hl
     refine ⟨_, w, ?_, .same h (.val _ rfl)⟩
     rw [run_convert_bytes_string w src dst e none 0 0 hs he hd]
     simp [Conv.bytesToString]
     rfl
    ·have hbs : l.length = xs.length ∧ ∀ i (hi : i < xs.length) (hj : i < l.length), xs[i] = [.v (.int .u8 (l[i].toNat : Int))] := bytesOf_spec hl
     obtain ⟨b1, b2⟩ := hbs
     refine ⟨_, w, ?_, .same h (.val _ rfl)⟩
     rw [← b1]
     refine run_convert_bytes_back w src dst e p cap l hs he hd (fun j hj => ?_)
     have hj' : j < xs.length := by omega
     cases hxc with
     | empty => exact absurd hj' (Nat.not_lt_zero _)
     | @slice _ _ _ blk off _ f ho hc hes hcell hI hR =>
      have hlen1 : xs[j].length = 1 := by rw [b2 j hj' hj]; rfl
      have hes1 : es = 1 := by rw [← hes _ (List.getElem_mem hj'), hlen1]
      have h1 := hI j hj' 0 (by omega)
      have h2 := hR j hj' 0 (by omega)
      have e0 : xs[j][0] = .v (.int .u8 (l[j].toNat : Int)) := by simp [b2 j hj' hj]
      rw [e0] at h2
      cases hf : f j 0 with
      | int k3 n =>
       rw [hf] at h2 h1
       cases h2
       rw [addr_add]
       have := h.rel.imm _ _ _ h1
       rw [hes1] at this
       simpa using this
      | _ => rw [hf] at h2; cases h2
   | v q => cases q <;> simp [convOp] at hv
   | _ => simp [convOp] at hv
  ·cases hc
 ·cases hc
theorem maxOp_run {mx : Bool} {a b v : AV} {x y : Value} (hx : Rel G k nl a x) (hy : Rel G k nl b y) (h : maxOp mx a b = some v) :
  ∃ z, ((if mx then Builtin.max2 else Builtin.min2) x y).run P w = .ok z w ∧ Rel G k nl v z := by
 unfold maxOp at h
 split at h
 ·obtain rfl := hx.inv_v
  obtain rfl := hy.inv_v
  split at h
  ·injection h with h
   subst h
   refine ⟨_, ?_, .val _ rfl⟩
   cases mx <;> simp [Builtin.max2, Builtin.min2]
  ·cases h
 ·cases h
theorem maxFold_run {mx : Bool} : ∀ {as : List AV} {xs : List Value} {a v : AV} {x : Value}, Rel G k nl a x → xs.length = as.length → (∀ i (hi : i < as.length) (hj : i < xs.length), Rel G k nl as[i] xs[i]) → maxFold mx a as = some v →
  ∃ z, (xs.foldlM (if mx then Builtin.max2 else Builtin.min2) x).run P w = .ok z w ∧ Rel G k nl v z
 | [], [], a, v, x, hx, _, _, h => by
  simp only [maxFold] at h
  injection h with h
  subst h
  exact ⟨x, by simp, hx⟩
 | [], _ :: _, _, _, _, _, hl, _, _ => by simp at hl
 | _ :: _, [], _, _, _, _, hl, _, _ => by simp at hl
 | b :: as, y :: xs, a, v, x, hx, hl, hR, h => by
  simp only [maxFold] at h
  split at h
  ·rename_i z hz
   obtain ⟨z', r1, r2⟩ := maxOp_run (P := P) (w := w) hx (hR 0 (by simp) (by simp)) hz
   obtain ⟨z'', r3, r4⟩ := maxFold_run r2 (by simpa using hl) (fun i hi hj => hR (i + 1) (by simpa using hi) (by simpa using hj)) h
   refine ⟨z'', ?_, r4⟩
   have r1' : ((if mx then Builtin.max2 else Builtin.min2) x y).run P w = .ok z' w := r1
   simp only [List.foldlM_cons, Sem.run_bind, r1', Result.andThen_ok, r3]
  ·cases h
theorem minmax_sound {mx : Bool} {as : List AV} {xs : Array Value} {v : AV} (ts : Array TypeId) (ty : TypeId) (hl : xs.size = as.length) (hR : ∀ i (hi : i < as.length), Rel G k nl as[i] (xs.getD i Go.undef)) (h : minmaxOp mx as = some v) :
  ∃ z, ((if mx then Builtin.max_ else Builtin.min_) ts ty xs).run P w = .ok z w ∧ Rel G k nl v z := by
 cases as with
 | nil => simp [minmaxOp] at h
 | cons a as =>
  simp only [minmaxOp] at h
  obtain ⟨ys⟩ := xs
  cases ys with
  | nil => simp at hl
  | cons y ys =>
   have h0 := hR 0 (by simp)
   simp only [List.getElem_cons_zero] at h0
   obtain ⟨z, r1, r2⟩ := maxFold_run (P := P) (w := w) (xs := ys) (x := y) (by simpa using h0) (by simpa using hl) (fun i hi hj => by
    have := hR (i + 1) (by simpa using hi)
    simpa [Array.getD, hj] using this) h
   refine ⟨z, ?_, r2⟩
   cases mx <;> simpa [Builtin.max_, Builtin.min_] using r1
end
end Go.Ax

/-
  A slice that may be written to becomes one that is only read: its box is dead from here on.
-/
namespace Go.Ax
open Go.RowKit
section
variable {P : Program} {B0 : Nat} {w0 : World} {G : Ghost} {k nl : Nat} {w : World} {s : Sig}
theorem kill_sound (h : At P B0 w0 G k nl s w) {b : Nat} {cs : List AV} {r : Rec} {gr : GRec} {blk : Nat} (hr : s.acts[k]? = some r) (hg : G.acts[k]? = some gr)
  (hb : r.boxes[b]? = some cs) (hbl : gr.bl[b]? = some (some blk)) (hcs : cs ≠ []) (hlast : b + 1 < r.boxes.length) :
  ∃ G', At P B0 w0 G' k nl (s.kill b) w ∧ GLe (k + 1) s.loops.length G G' ∧ ∀ i, G'.I blk i = w.cell? ⟨blk, i, none⟩ := by
 have hrr := h.rel.rec_ k r gr hr hg
 have hbx := hrr.box b cs blk hb hbl
 obtain ⟨b1, ⟨x0, b2, b2'⟩, b3, arr0, ty0, b4, _⟩ := hbx
 have hx0 := b2' hcs
 subst hx0
 have b3 := b3 hcs
 have hbnd : x0 < r.boxes.length := (List.getElem?_eq_some_iff.1 hb).1
 let T : TokG := ⟨none, 0, 0, 0⟩
 let gf : GRec → GRec := fun q => { q with tk := q.tk ++ [T] }
 let G' : Ghost := { G with acts := G.acts.modify k gf, I := fun c i => if c = blk then w.cell? ⟨c, i, none⟩ else G.I c i }
 have hI : ∀ c i v, G.I c i = some v → G'.I c i = some v := fun c i v e => by
  simp only [G']
  split
  ·rename_i hc
   subst hc
   rw [b3] at e; cases e
  ·exact e
 have hk : KeepsOwn (· = .box k x0) G w G' w := fun c o e hne => by
  refine ⟨e, rfl, fun i hi => ?_⟩
  simp only [G']
  split
  ·rename_i hc
   subst hc
   rw [b2] at e
   injection e with e
   exact absurd e.symm hne
  ·exact hi
 have hle0 : RecLe gr (gf gr) := ⟨fun j q e => e, fun g U e => ⟨U, get_old e, .refl U⟩, rfl, fun j m e => e, fun _ _ e => e⟩
 have hle : GLe k nl G G' := ⟨hI, fun d q _ e => by
  simp only [G', modify_get]
  by_cases hd : k = d
  ·subst hd
   rw [hg] at e
   injection e with e
   subst e
   exact ⟨_, by rw [if_pos rfl, hg]; rfl, hle0, fun _ => rfl⟩
  ·exact ⟨q, by rw [if_neg hd]; exact e, .refl q, fun _ => rfl⟩, fun _ _ _ e => e⟩
 have hnl : gr.nl = nl := by obtain ⟨g', e1, e2⟩ := h.cur; rw [hg] at e1; injection e1 with e1; rw [e1]; exact e2
 have hstep := h.rel.onRec (G' := G') (w' := w) hr hg (fun r => { r with boxes := r.boxes.set x0 [], toks := r.toks ++ [none] }) gf (· = .box k x0) rfl rfl hI hle0 rfl hk
  (fun o ho => .inl ⟨_, ho⟩) ?_ (fun c i v e => ?_) (Below.refl _ _) (fun c o e => h.rel.ownlt c o e)
 ·obtain ⟨hs, hle'⟩ := hstep
  have hs' : SRel P B0 w0 G' (s.kill x0) w := by
   simp only [Sig.kill, h.cur_eq]
   exact hs
  exact ⟨G', h.to hs' hle (by simp [Sig.kill, Sig.onRec]), hle' _ _, fun i => by simp only [G']; rw [if_pos trivial]⟩
 ·refine ⟨by simp [gf, hrr.blen], by simp [gf, hrr.tlen], fun j q blk2 e1 e2 => ?_, fun j q e1 e2 => ⟨by simp, by
   show j + 1 < (r.boxes.set x0 []).length
   rw [List.length_set]
   by_cases hjx : x0 = j
   ·subst hjx; exact hlast
   ·have e2' : (r.boxes.set x0 [])[j]? = some [] := e2
    rw [List.getElem?_set_ne hjx] at e2'
    exact (hrr.full j q e1 e2').2⟩, fun g m U e1 e2 => ?_, fun i c e1 => ?_, fun j m e1 => hrr.gsl j m e1, fun j blk2 e1 => ?_⟩
  ·have e2' : gr.bl[j]? = some (some blk2) := e2
   rw [List.getElem?_set] at e1
   by_cases hjx : x0 = j
   ·subst hjx
    rw [if_pos rfl, if_pos hbnd] at e1
    injection e1 with e1
    subst e1
    rw [hbl] at e2'
    injection e2' with e2'
    injection e2' with e2'
    subst e2'
    exact ⟨b1, ⟨x0, b2, fun _ => rfl⟩, fun hn => absurd rfl hn, arr0, ty0, b4, Nat.zero_le _, fun hn => absurd rfl hn, fun i hi => absurd hi (Nat.not_lt_zero _)⟩
   ·rw [if_neg hjx] at e1
    have hjb := hrr.box j q blk2 e1 e2'
    by_cases hq0 : q = []
    ·subst hq0
     obtain ⟨y1, ⟨x, y2, _⟩, _, arr1, ty1, y4, _⟩ := hjb
     exact ⟨y1, ⟨x, y2, fun hn => absurd rfl hn⟩, fun hn => absurd rfl hn, arr1, ty1, y4, Nat.zero_le _, fun hn => absurd rfl hn, fun i hi => absurd hi (Nat.not_lt_zero _)⟩
    ·obtain ⟨x, y1, y2⟩ := hjb.2.1
     obtain ⟨k1, k2, k3⟩ := hk _ _ y1 (fun e => by injection e with _ e; rw [y2 hq0] at e; exact hjx e.symm)
     exact hjb.keep (G' := G') (w' := w) (by rw [hnl]; exact hle) (fun z e => by rw [y1] at e; injection e with e; rw [← e]; exact k1) k2 k3
  ·rcases get_push e1 with ⟨hlt, e1⟩ | ⟨hgl, rfl⟩
   ·have e2' : gr.tk[g]? = some U := by
     rcases get_push e2 with ⟨_, e2⟩ | ⟨hb', _⟩
     ·exact e2
     ·rw [hrr.tlen] at hb'; omega
    have ht := hrr.tok g m U e1 e2'
    have hs : ∀ (hn : m.isSome = true), G'.own U.blk = some (.tok k g) ∧ w.heap[U.blk]? = w.heap[U.blk]? ∧ ∀ i, G.I U.blk i = none → G'.I U.blk i = none := fun hn => by
     obtain ⟨q, hq⟩ := Option.isSome_iff_exists.1 hn
     exact hk _ _ (ht.2 q hq).2.1 (fun e => by cases e)
    exact ht.keep (fun hn => (hs hn).1) (fun hn => (hs hn).2.1) (fun hn => (hs hn).2.2)
   ·have : U = T := by
     rcases get_push e2 with ⟨hb', _⟩ | ⟨_, e⟩
     ·rw [hrr.tlen] at hb'; omega
     ·exact e
    subst this
    exact ⟨rfl, fun q hq => by cases hq⟩
  ·have hm := hrr.mark i c e1
   obtain ⟨k1, k2, _⟩ := hk _ _ hm.2.1 (fun e => by cases e)
   exact hm.keep k1 k2
  ·obtain ⟨hb', cs2, h2, h3⟩ := hrr.mp j blk2 e1
   have hjx : x0 ≠ j := by
    rintro rfl
    rw [hbl] at hb'; cases hb'
   exact ⟨hb', cs2, by show (r.boxes.set x0 [])[j]? = _; rw [List.getElem?_set, if_neg hjx]; exact h2, h3.kept hk (fun e => by injection e with _ e; exact hjx e.symm)⟩
 ·simp only [G'] at e
  split at e
  ·exact e
  ·exact h.rel.imm c i v e
theorem freeze_sound (h : At P B0 w0 G k nl s w) {x v : AV} {z : Value} {s' : Sig} (hx : Rel G k nl x z) (hf : freezeOp s x = some (v, s')) : StepTo P B0 w0 G k nl s s' w v z := by
 cases x with
 | slice o es xs =>
  simp only [freezeOp] at hf
  injection hf with hf
  injection hf with e1 e2
  subst e1 e2
  exact ⟨G, h, GLe.refl _ _ _, rfl, hx⟩
 | rsl d b off es n cap =>
  simp only [freezeOp] at hf
  split at hf
  case isFalse => cases hf
  rename_i hd
  rw [h.cur_eq] at hd
  subst hd
  obtain ⟨cs, hb, hf⟩ := Option.bind_eq_some_iff.1 hf
  split at hf
  ·cases hf
  rename_i hem
  split at hf
  case isFalse => cases hf
  rename_i hle
  obtain ⟨cs', hc, hf⟩ := Option.map_eq_some_iff.1 hf
  injection hf with e1 e2
  subst e1 e2
  have hcs : cs ≠ [] := fun e => hem (.inl (by rw [e]; rfl))
  obtain ⟨blk, gr', rc, o0, rfl, _, hg, hbl, hn, _, _, ho⟩ := hx.inv_rsl
  obtain ⟨r, hr, hrb, _, arr, ty, hw, hrow, hcl⟩ := h.box (Nat.le_refl _) hb hg hbl
  obtain ⟨c1, c2, c3⟩ := closeAll_rel hc hrow.1 hcl hrow.2
  obtain ⟨G', a1, a2, a3⟩ := kill_sound h hr hg hrb hbl hcs (by
   have h5 : s.nbox d = r.boxes.length := by simp [Sig.nbox, hr]
   apply Classical.byContradiction
   intro hc
   exact hem (.inr (by omega)))
  refine ⟨G', a1, a2, by simp [Sig.kill, Sig.onRec], .cl ?_⟩
  rcases Nat.eq_zero_or_pos n with hn0 | hn0
  ·subst hn0
   exact .slice (fun _ _ => Go.undef) (.inl rfl) (Nat.zero_le _) (fun r hr => absurd hr (by simp [chunks])) (fun r hr => absurd hr (by simp [chunks])) (fun i hi => absurd hi (Nat.not_lt_zero _)) (fun i hi => absurd hi (Nat.not_lt_zero _))
  have ho := ho (.inl hn0)
  subst ho
  have := row_slice (I := G'.I) (cs := cs') (es := es) (n := n) (cap := rc) (blk := blk) (o0 := 0) (off := o0) (f := fun i => arr.getD i Go.undef) c2 (fun i hi => by
   have : i < arr.size := by have := hrow.1; omega
   rw [Nat.zero_add, a3, cell_of_heap hw]
   simp [Array.getD, this]) (fun i hi => (c3 i hi).mono a2.I) (by rw [c1]; exact hle) hn
  unfold SliceC at this
  rw [(chunks_spec es n (cs'.drop o0) (by simp [c1]; omega)).1, Nat.zero_add] at this
  exact this
 | _ => cases hf
theorem buildFz_sound (h : At P B0 w0 G k nl s w) {t e : TypeId} {es : Nat} {zs : List AV} {q : Nat} {ρ : Nat → AV} {a : Act} {v : AV} {s' : Sig} (hR : TmpsRel G k nl ρ a)
  (ht : P.underlying t = some (.slice e)) (hs : sizeP P e = some es) (hz : zeroP P e = some zs) (hle : 1 * es ≤ 2 ^ 24) (hl : zs.length = es) (h0 : 0 < es)
  (hb : buildFzOp s es zs (ρ q) = some (v, s')) :
  ∃ z w', (Instr.buildSlice t 1 ((#[(0, Operand.tmp q)] : Array (Nat × Operand)).map fun (i, x) => (i, a.eval x))).run P w = .ok z w' ∧ StepTo P B0 w0 G k nl s s' w' v z := by
 unfold buildFzOp at hb
 obtain ⟨⟨x, s1⟩, h1, hb⟩ := Option.bind_eq_some_iff.1 hb
 obtain ⟨rs, h2, hb⟩ := Option.map_eq_some_iff.1 hb
 injection hb with e1 e2
 subst e1 e2
 obtain ⟨G1, a1, a2, a3, a4⟩ := freeze_sound h (hR q) h1
 have hR1 : TmpsRel G1 k nl (put q x ρ) a := fun u => by
  unfold put
  split
  ·rename_i hu
   subst hu
   exact a4
  ·exact (hR u).mono (a2.less (by omega) h.nle) (Nat.le_refl _) (Nat.le_refl _)
 have hput : evalT (put q x ρ) (.tmp q) = x := by simp [evalT, put]
 obtain ⟨z, w', r1, G2, b1, b2, b3, b4⟩ := buildSlice_sound (len := 1) (parts := #[(0, .tmp q)]) (rows := rs) a1 hR1 ht hs hz rfl hle hl h0 (by
  rw [← h2]
  simp only [List.replicate_one, buildRows, hput])
 exact ⟨z, w', r1, G2, b1, a2.trans (by rw [← a3]; exact b2), b3.trans a3, b4⟩
theorem clear_none_run {t e ty : TypeId} (ht : P.underlying t = some (.slice e)) (b : Option Addr) (c : Nat) : (Builtin.clear_ #[t] ty #[.slice b 0 c]).run P w = .ok (.tuple #[]) w := by
 cases b <;> simp [Builtin.clear_, run_underlying ht]
theorem clear_run {t e ty : TypeId} {z : Value} {b off n c : Nat} {arr : Array Value} {tb : TypeId} (ht : P.underlying t = some (.slice e)) (hz : (P.info? e).bind (·.zero) = some z) (hn : 0 < n) (hw : w.heap[b]? = some (.cells arr tb))
  (hle : off + (Builtin.zeroCells z.cells n).size ≤ arr.size) (h1 : ∀ u, u ∈ (Builtin.zeroCells z.cells n).toList → u.oneCell' = true) :
  (Builtin.clear_ #[t] ty #[.slice (some ⟨b, off, none⟩) n c]).run P w = .ok (.tuple #[]) (w.setCells b off (Builtin.zeroCells z.cells n).toList) := by
 have hst := run_storeCells_cells (P := P) b off (Builtin.zeroCells z.cells n).toList 0 w (fun j hj => by
   have hj' : j < (Builtin.zeroCells z.cells n).size := by simpa using hj
   rw [cell_of_heap hw]
   simp; omega) (fun j _ => frozen_of_heap hw) h1
 rw [Nat.add_zero] at hst
 cases n with
 | zero => omega
 | succ n => simp [Builtin.clear_, run_underlying ht, zeroValue_run hz, hst]
theorem clear_sound (h : At P B0 w0 G k nl s w) {t e ty : TypeId} {zs : List AV} (ht : P.underlying t = some (.slice e)) (hz : zeroP P e = some zs) (h0 : 0 < zs.length) {a v : AV} {x : Value} {s' : Sig}
  (hx : Rel G k nl a x) (hc : clearOp s zs a = some (v, s')) : ∃ y w', (Builtin.clear_ #[t] ty #[x]).run P w = .ok y w' ∧ StepTo P B0 w0 G k nl s s' w' v y := by
 obtain ⟨z, h1, h2⟩ := zeroP_run hz
 have htup : ∀ G' : Ghost, Rel G' k nl (.tuple []) (.tuple #[]) := fun G' => .tuple rfl (fun i hi => absurd hi (Nat.not_lt_zero _))
 unfold clearOp at hc
 split at hc
 ·rename_i o es xs
  split at hc
  case isFalse => cases hc
  rename_i hem
  injection hc with hc
  injection hc with e1 e2
  subst e1 e2
  have hxs : xs = [] := by simpa using hem
  subst hxs
  obtain ⟨b, c, rfl⟩ : ∃ b c, x = .slice b 0 c := by
   rcases hx.inv_slice with ⟨_, _, rfl⟩ | ⟨_, aa, c, rfl, _⟩
   ·exact ⟨_, _, rfl⟩
   ·exact ⟨_, _, rfl⟩
  exact ⟨_, w, clear_none_run ht b c, G, h, GLe.refl _ _ _, rfl, htup G⟩
 ·rename_i d b off es n cap
  obtain ⟨blk, gr, rc, o0, rfl, hd, hg, hbl, hnr, _, hw, ho⟩ := hx.inv_rsl
  split at hc
  ·rename_i hn
   injection hc with hc
   injection hc with e1 e2
   subst e1 e2 hn
   exact ⟨_, w, clear_none_run ht _ rc, G, h, GLe.refl _ _ _, rfl, htup G⟩
  ·rename_i hn
   split at hc
   case isFalse => cases hc
   rename_i hes
   subst hes
   obtain ⟨m, hm, hc⟩ := Option.map_eq_some_iff.1 hc
   injection hc with e1 e2
   subst e1 e2
   have ho := ho (.inl (by omega))
   subst ho
   obtain ⟨c1, c2, c3⟩ := cells_rel (I := G.I) h2
   have hzsz : (Builtin.zeroCells z.cells n).size = n * zs.length := by simp [Builtin.zeroCells, c1]
   have hrow : Rel G k nl (.agg (List.replicate n zs).flatten) (.agg (Builtin.zeroCells z.cells n)) := by
    refine .agg (by rw [hzsz, flat_len]) (fun c hc => ?_) (fun q hq => ?_)
    ·obtain ⟨r, hr, hc⟩ := List.mem_flatten.1 hc
     rw [(List.mem_replicate.1 hr).2] at hc
     exact c2 c hc
    ·rw [flat_len] at hq
     have hg := flat_get zs (by omega) n q hq
     have hmod : q % zs.length < zs.length := Nat.mod_lt _ (by omega)
     rw [List.getElem?_eq_getElem hmod, List.getElem?_eq_getElem (by rw [flat_len]; exact hq)] at hg
     injection hg with hg
     rw [hg]
     have := zero_get (I := G.I) h2 (by omega) q
     have e : (Builtin.zeroCells z.cells n).getD q Go.undef = z.cells[q % z.cells.size]! := by
      have : q < n * z.cells.size := by rw [c1]; exact hq
      simp [Builtin.zeroCells, Array.getD, this]
     rw [e]
     exact .cl this
   obtain ⟨blk', off', arr, tb, e1, q2, q3, q4, q5, q6⟩ := store_core h (.ptr gr hd hg hbl) hrow hm
   injection e1 with e1
   injection e1 with e1
   injection e1 with e1 e2
   subst e1 e2
   have hcs : (Value.agg (Builtin.zeroCells z.cells n)).cells = Builtin.zeroCells z.cells n := rfl
   rw [hcs] at q3 q5 q6
   obtain ⟨G', a1, a2, a3, _⟩ := q6
   exact ⟨_, _, clear_run ht h1 (by omega) q2 (by rw [q3]; exact q4) q5, G', a1, a2, a3, htup G'⟩
 ·cases hc
theorem rowBox_sound (h : At P B0 w0 G k nl s w) {t e : TypeId} {es : Nat} {zs : List AV} {i : Nat} {x : Operand} {ax : AOpd} {ρ : Nat → AV} {a : Act} {v : AV} {s' : Sig} (hR : TmpsRel G k nl ρ a)
  (ht : P.underlying t = some (.slice e)) (hs : sizeP P e = some es) (hz : zeroP P e = some zs) (hle : 1 * es ≤ 2 ^ 24) (hl : zs.length = es) (h0 : 0 < es) (hx : compOpd x = some ax) (hi : i = 0)
  (hb : rowBoxOp s es (evalT ρ ax) = some (v, s')) :
  ∃ y w', (Instr.buildSlice t 1 ((#[(i, x)] : Array (Nat × Operand)).map fun (i, x) => (i, a.eval x))).run P w = .ok y w' ∧ StepTo P B0 w0 G k nl s s' w' v y := by
 subst hi
 unfold rowBoxOp at hb
 split at hb
 case isFalse => cases hb
 rename_i hcond
 obtain ⟨hlen, hall, _⟩ := hcond
 injection hb with hb
 injection hb with e1 e2
 subst e1 e2
 obtain ⟨z, h1, h2⟩ := zeroP_run hz
 have hxv := opd_rel hx hR
 obtain ⟨hsz, hcells⟩ := hxv.cells hall
 have hvsz : (a.eval x).cells.size = es := hsz.trans hlen
 have hngt : ¬ (1 * es > 2 ^ 24) := by omega
 have hn : ¬ (1 * es = 0) := by omega
 have hrun : (Instr.buildSlice t 1 ((#[(0, x)] : Array (Nat × Operand)).map fun (i, x) => (i, a.eval x))).run P w = .ok (.slice (some ⟨w.heap.size, 0, none⟩) 1 1) (w.alloc (.cells (a.eval x).cells e)) := by
  have hfill : Instr.fill (fun i => some (i * es, es)) ((Array.range (1 * es)).map (z.cells[· % z.cells.size]!)) [(0, a.eval x)] = some (a.eval x).cells := by
   simp only [Instr.fill]
   rw [if_neg (by simp [hvsz]), foldl_arr]
   congr 1
   refine Array.ext (by rw [setA_size]; simp [hvsz]) fun i h1 h2 => ?_
   have hg := setA_getM (a.eval x).cells.toList ((Array.range (1 * es)).map (z.cells[· % z.cells.size]!)) (0 * es) i (by simp [hvsz])
   rw [if_pos (by simp; exact h2)] at hg
   have key : ∀ q : Array Value, ∀ h1 : i < q.size, q.getD i Go.undef = q[i] := fun q h1 => by simp [Array.getD, h1]
   rw [← key _ h1, hg]
   simp [h2]
  have hm : ((#[(0, x)] : Array (Nat × Operand)).map fun (i, x) => (i, a.eval x)).toList = [(0, a.eval x)] := by simp
  simp only [Instr.buildSlice, Sem.run_bind, run_underlying ht, Result.andThen_ok, sizeOf_run hs, if_neg hngt, if_neg hn, zeroValue_run h1, Sem.run_pure, hm, hfill, newRow, run_newObj]
  rfl
 refine ⟨_, _, hrun, ?_⟩
 exact (newBox_sound h e none (fun _ e => by cases e) (fun e => by rw [e] at hlen; simp at hlen; omega) (List.all_eq_true.1 hall) (Row2.le ⟨hsz, hcells⟩)).2.2 es 1 1 1 (Nat.le_refl _) (Nat.le_refl _) (fun e => by cases e)
end
end Go.Ax

/-
  Maps from strings to true.
-/
namespace Go.Ax
open Go.RowKit
section
variable {P : Program} {B0 : Nat} {w0 : World} {G G' : Ghost} {k nl : Nat} {w w' : World} {s : Sig}
theorem loadq_load {agg : Bool} {n off : Nat} {x y v : AV} (h : loadqOp s agg n x off y = some v) : s.load agg n x = some v := by
 unfold loadqOp at h
 split at h
 ·exact h
 ·split at h
  ·exact h
  ·cases h
 ·cases h
theorem append_zero_run {t u e ty : TypeId} {es by_ : Nat} {z : Value} {kk k1 : IntKind} {zl : Int} (hT : ElemT P t e es by_ z) (hu : P.underlying u = some (.int kk)) (h0 : 0 < zl) (hm : zl ≤ 4294967296) :
  ∃ newCap : Nat, zl.toNat ≤ newCap ∧ (Builtin.append_ #[t, u] ty #[.slice none 0 0, .int k1 zl]).run P w =
   .ok (.slice (some ⟨w.heap.size, 0, none⟩) zl.toNat newCap) (w.drew.alloc (.cells (Builtin.zeroCells z.cells zl.toNat ++ Builtin.zeroCells z.cells (newCap - zl.toNat)) e)) := by
 obtain ⟨i, hi, hby⟩ := info_of hT.bytes
 have hs : i.size = es := by have := hT.size; unfold sizeP at this; rw [hi] at this; simpa using this
 have hz : i.zero = some z := by have := hT.zero; rw [hi] at this; simpa using this
 have hwrap : IntKind.i64.wrap zl = zl := by
  have h1 : zl % 18446744073709551616 = zl := by omega
  have h2 : ¬ 9223372036854775808 ≤ zl := by omega
  simp [IntKind.wrap, IntKind.signed, IntKind.bits, h1, h2]
 have hble : i.bytes ≤ 4096 := by rw [hby]; exact hT.ble
 have hb2 : (i.bytes : Int) * zl ≤ 17592186044416 := by
  calc (i.bytes : Int) * zl ≤ 4096 * zl := Int.mul_le_mul_of_nonneg_right (by omega) (by omega)
   _ ≤ 17592186044416 := by omega
 have hl0 : ¬ zl < 0 := by omega
 have hlb : ¬ zl * i.bytes > 2 ^ 48 := by rw [Int.mul_comm]; omega
 have hne : ¬ zl.toNat * es = 0 := by
  intro h
  rcases Nat.mul_eq_zero.1 h with h | h
  ·omega
  ·have := hT.pos; omega
 have hgt' : ¬ 0 + zl.toNat ≤ 0 := by omega
 have hbig : ¬ Builtin.nextslicecap zl.toNat 0 * i.bytes > 2 ^ 48 := by
  have := big_most (n := zl.toNat) (cap := 0) hT (by omega) (by unfold most; omega)
  rw [hby]; omega
 have hb0 : ¬ i.bytes = 0 := by have := hT.bpos; omega
 have hmx : ¬ ((zl.toNat : Int) > IntKind.i64.max) := by simp [IntKind.max, IntKind.signed, IntKind.bits]; omega
 have hcap : zl.toNat ≤ (Question.appendCap zl.toNat 0 e).cut (w.tape w.drawn (Question.appendCap zl.toNat 0 e)) := by simp [Question.cut]
 generalize hnc : (Question.appendCap zl.toNat 0 e).cut (w.tape w.drawn (Question.appendCap zl.toNat 0 e)) = newCap at hcap
 have g1 : ¬ 281474976710656 < zl * i.bytes := by rw [Int.mul_comm]; omega
 have g2 : ¬ zl ≤ 0 := by omega
 have g3 : ¬ 9223372036854775807 < max zl 0 := by omega
 refine ⟨newCap, hcap, ?_⟩
 have hfo : (Question.appendCap zl.toNat 0 e).forced = false := rfl
 simp only [Builtin.append_, List.getElem?_toArray, List.getElem?_cons_zero, List.getElem?_cons_succ, Sem.run_bind, Sem.run_pure, Result.andThen_ok, run_underlying hT.slice, run_underlying hu, sizeOf_run hT.size,
  Bool.false_eq_true, ↓reduceIte]
 simp [typeInfo, hi, hb0, hbig, newRow, hfo, hnc, zeroValue_run hT.zero, asInt, asIntOf, g1, g2, g3, hwrap, hl0, hlb, hne, hmx, Builtin.firstCells]
theorem appendz_sound (h : At P B0 w0 G k nl s w) {t u e ty : TypeId} {es by_ : Nat} {z : Value} {zs : List AV} {kk : IntKind} (hT : ElemT P t e es by_ z) (hz2 : mapO ofCell z.cells.toList = some zs) (hl : zs.length = es) (hu : P.underlying u = some (.int kk)) {a b v : AV} {x y : Value} {s' : Sig}
  (hx : Rel G k nl a x) (hy : Rel G k nl b y) (ha : appendzOp s es zs a b = some (v, s')) :
  ∃ x' w', (Builtin.append_ #[t, u] ty #[x, y]).run P w = .ok x' w' ∧ StepTo P B0 w0 G k nl s s' w' v x' := by
 unfold appendzOp at ha
 split at ha
 case h_2 => cases ha
 obtain ⟨n, hn, ha⟩ := Option.bind_eq_some_iff.1 ha
 obtain ⟨k1, zl, rfl, z0, z1, rfl⟩ := asNat_rel hy hn
 split at ha
 ·cases ha
 rename_i hne
 injection ha with ha
 injection ha with h1 h2
 subst h1 h2
 rcases hx.inv_slice with ⟨_, _, rfl⟩ | ⟨hnn, _⟩
 case inr => exact absurd rfl hnn
 have hpos := hT.pos
 have hzl : zl ≤ 4294967296 := by unfold most at z1; exact z1
 obtain ⟨newCap, hcap, hrun⟩ := append_zero_run (P := P) (w := w) (ty := ty) (kk := kk) (k1 := k1) hT hu (by omega) hzl
 refine ⟨_, _, hrun, ?_⟩
 obtain ⟨g, hg, hgl⟩ := h.cur
 have hzsz : z.cells.size = zs.length := (cells_rel (I := G.I) hz2).1
 have hflen := flat_len zs zl.toNat
 have hrow : RowLe (Rel G k g.nl) (List.replicate zl.toNat zs).flatten (Builtin.zeroCells z.cells zl.toNat ++ Builtin.zeroCells z.cells (newCap - zl.toNat)) := by
  refine ⟨by rw [hflen]; simp [Builtin.zeroCells, hzsz], fun q hq => ?_⟩
  have hq' : q < zl.toNat * zs.length := by rw [← hflen]; exact hq
  have hg := flat_get zs (by omega) zl.toNat q hq'
  have hmod : q % zs.length < zs.length := Nat.mod_lt _ (by omega)
  rw [List.getElem?_eq_getElem hmod, List.getElem?_eq_getElem hq] at hg
  injection hg with hg
  rw [hg]
  have := zero_get (I := G.I) hz2 (by omega) q
  have hsz : (Builtin.zeroCells z.cells zl.toNat).size = zl.toNat * zs.length := by simp [Builtin.zeroCells, hzsz]
  have e : (Builtin.zeroCells z.cells zl.toNat ++ Builtin.zeroCells z.cells (newCap - zl.toNat)).getD q Go.undef = z.cells[q % z.cells.size]! := by
   have hq2 : q < (Builtin.zeroCells z.cells zl.toNat ++ Builtin.zeroCells z.cells (newCap - zl.toNat)).size := by rw [Array.size_append]; omega
   simp only [Array.getD, hq2, dite_true]
   change (Builtin.zeroCells z.cells zl.toNat ++ Builtin.zeroCells z.cells (newCap - zl.toNat))[q] = _
   rw [Array.getElem_append_left (by omega)]
   simp [Builtin.zeroCells]
  rw [e]
  exact .cl this
 have hcells : ∀ c, c ∈ (List.replicate zl.toNat zs).flatten → c.isCell = true := fun c hc => by
  obtain ⟨r, hr, hc⟩ := List.mem_flatten.1 hc
  rw [(List.mem_replicate.1 hr).2] at hc
  exact (cells_rel (I := G.I) hz2).2.1 c hc
 rw [h.cur_eq]
 refine newBoxAt_sound h.drew (Nat.le_refl k) hg e none (fun _ e => by cases e) (fun e => ?_) hcells hrow es zl.toNat zl.toNat newCap hcap hcap (fun e1 e2 => by omega)
 have := congrArg List.length e
 rw [hflen, List.length_nil] at this
 rcases Nat.mul_eq_zero.1 this with h' | h' <;> omega
theorem appendi_sound (h : At P B0 w0 G k nl s w) {t u e ty : TypeId} {es by_ : Nat} {z : Value} (hT : ElemT P t e es by_ z) (hu : ∃ e', P.underlying u = some (.slice e')) {a b v : AV} {x y : Value} {s' : Sig}
  (hx : Rel G k nl a x) (hy : Rel G k nl b y) (ha : appendiOp s es a b = some (v, s')) :
  ∃ x' w', (Builtin.append_ #[t, u] ty #[x, y]).run P w = .ok x' w' ∧ StepTo P B0 w0 G k nl s s' w' v x' := by
 unfold appendiOp at ha
 split at ha
 case h_3 => cases ha
 case h_2 =>
  rename_i o e1 xs
  obtain ⟨p, hp, ha'⟩ := Option.bind_eq_some_iff.1 ha
  clear ha
  rcases src_rows h hT.pos hy hp with ⟨hp0, bb, cc, rfl⟩ | ⟨hp0, ay, cy, fy, rfl, hplen, hgy, hpcell, hpR⟩
  ·rw [if_pos hp0] at ha'
   injection ha' with ha'
   injection ha' with h1 h2
   subst h1 h2
   have hself : StepTo P B0 w0 G k nl s s w (.slice o e1 xs) x := ⟨G, h, GLe.refl _ _ _, rfl, hx⟩
   rcases hx.inv_slice with ⟨_, _, rfl⟩ | ⟨_, aa, cap, rfl, _, hle, _⟩
   ·exact ⟨_, w, append_none_run hT hu none bb cc (Nat.le_refl _), hself⟩
   ·exact ⟨_, w, append_none_run hT hu (some aa) bb cc hle, hself⟩
  rw [if_neg (by omega)] at ha'
  split at ha'
  case isFalse => cases ha'
  rename_i hcond
  obtain ⟨hxe, hown, hmost⟩ := hcond
  injection ha' with ha'
  injection ha' with h1 h2
  subst h1 h2
  rw [h.cur_eq]
  obtain ⟨r, gr, hr, hg⟩ := h.rec_ (Nat.le_refl k)
  have hpos := Nat.mul_pos hp0 hT.pos
  have hpne : p.1 ≠ [] := fun e => by rw [e, List.length_nil] at hplen; omega
  have hRd : ∀ i (hi : i < p.1.length), Rel G k gr.nl p.1[i] (fy i) := fun i hi => by
   obtain ⟨g', e1, e2⟩ := h.cur
   rw [hg] at e1
   injection e1 with e1
   rw [e1, e2]
   exact hpR i hi
  have hxs : xs = [] := by simpa using hxe
  subst hxs
  obtain ⟨base, rfl⟩ : ∃ base, x = .slice base 0 0 := by
   rcases hx.inv_slice with ⟨_, _, rfl⟩ | ⟨hnn, ax, cx, rfl, _, _, hxc, hfull⟩
   ·exact ⟨none, rfl⟩
   ·rcases hown with hc | ⟨hc, _⟩
    ·cases o <;> simp [Own.isNil] at hc
     exact absurd rfl hnn
    ·have ho : o = .full := by cases o <;> simp [Own.isFull] at hc ⊢
     have := hfull ho
     subst this
     exact ⟨some ax, rfl⟩
  obtain ⟨newCap, rest, hcap, hrest, hrun⟩ := append_grow_run (P := P) (w := w) (ty := ty) (n := 0) (m := p.2) (cap := 0) (c := cy) (base := base) (a := ay) (f := fun _ => Go.undef) (g := fy) hT hu (by omega) (big_most hT (by omega) (by omega)) (fun b _ c hc => by simp at hc) (fun _ => rfl) hgy
  rw [Nat.zero_add] at hrun hcap hrest
  refine ⟨_, _, hrun, ?_⟩
  have hrow := row_both (R := Rel G k gr.nl) (cs := []) (ds := p.1) (n := 0) (m := p.2 * es) (f := fun _ => Go.undef) (g := fy) (rest := rest) rfl hplen (fun i hi => by simp at hi) (fun i hi => hRd i hi)
  rw [List.nil_append] at hrow
  have hsz : ((List.range (0 * es + p.2 * es)).map (both (0 * es) (fun _ => Go.undef) fy) ++ rest).toArray.size = newCap * es := by
   simp only [List.size_toArray, List.length_append, List.length_map, List.length_range, hrest]
   rw [← Nat.add_mul, ← Nat.add_mul]
   congr 1; omega
  exact newBoxAt_sound h.drew (Nat.le_refl k) hg e (some (newCap * es)) (fun n hn => by injection hn with hn; rw [hsz, hn]) hpne hpcell (by simpa using hrow) es p.2 0 newCap hcap (Nat.zero_le _) (fun _ _ => rfl)
 rename_i d bb off e1 n cap
 obtain ⟨p, hp, ha'⟩ := Option.bind_eq_some_iff.1 ha
 clear ha
 obtain ⟨blk, gr, rc, o0, rfl, hd, hg, hbl, hnr, hcr, hw, ho⟩ := hx.inv_rsl
 have hsrc := src_rows h hT.pos hy hp
 split at ha'
 ·rename_i hz
  injection ha' with ha'
  injection ha' with h1 h2
  subst h1 h2
  rcases hsrc with ⟨_, bb, c, rfl⟩ | ⟨hpos, _⟩
  ·exact ⟨_, w, append_none_run hT hu _ bb c hnr, G, h, GLe.refl _ _ _, rfl, hx⟩
  ·omega
 ·rename_i hz
  split at ha'
  case isFalse => cases ha'
  rename_i hcond
  obtain ⟨rfl, rfl, hroom⟩ := hcond
  obtain ⟨m, hm, ha'⟩ := Option.map_eq_some_iff.1 ha'
  injection ha' with h1 h2
  subst h1 h2
  rcases hsrc with ⟨hz', _⟩ | ⟨hpos, ay, cy, fy, rfl, hlen, hcell, hisc, hrel⟩
  ·exact absurd hz' hz
  have := ho (.inr (by omega))
  subst this
  have hpx : Rel G k nl (.ptr d bb (n * e1)) (.pointer (some ⟨blk, n * e1, none⟩)) := .ptr gr hd hg hbl
  have hyv : Rel G k nl (.agg p.1) (.agg ((List.range (p.2 * e1)).map fy).toArray) := by
   refine .agg (by simp [hlen]) hisc (fun i hi => ?_)
   have : ((List.range (p.2 * e1)).map fy).toArray.getD i Go.undef = fy i := by rw [hlen] at hi; simp [Array.getD, hi]
   rw [this]
   exact hrel i hi
  obtain ⟨blk', off', arr, tb, e1', h2, h3, h4, h5, h6⟩ := store_core h hpx hyv hm
  injection e1' with e1'
  injection e1' with e1'
  injection e1' with e1' e2'
  subst e1' e2'
  have hcs : (Value.agg ((List.range (p.2 * e1)).map fy).toArray).cells.toList = (List.range (p.2 * e1)).map fy := rfl
  rw [hcs] at h5 h6
  have hrun := append_room_run (P := P) (w := w) (ty := ty) (n := n) (m := p.2) (cap := rc) (c := cy) (blk := blk) (a := ay) (g := fy) hT hu (by omega) hcell h2 (by rw [Nat.add_mul]; exact h4) (fun c hc => h5 _ (List.mem_map.2 ⟨c, List.mem_range.2 hc, rfl⟩))
  obtain ⟨G', a1, a2, a3, _⟩ := h6
  refine ⟨_, _, hrun, G', a1, a2, a3, ?_⟩
  have hx2 : Rel G k nl (.rsl d bb 0 e1 (n + p.2) cap) (.slice (some ⟨blk, 0, none⟩) (n + p.2) rc) := .rsl gr hd hg hbl (by omega) hcr (fun hc => by omega) (fun _ => rfl)
  exact hx2.mono (a2.less (Nat.le_succ k) h.nle) (Nat.le_refl _) (Nat.le_refl _)
theorem Rel.inv_mp {d b : Nat} {y : Value} (h : Rel G k nl (.mp d b) y) : ∃ blk gr, y = .map (some blk) ∧ d ≤ k ∧ G.acts[d]? = some gr ∧ gr.mp b = some blk := by
 cases h with
 | cl h => cases h
 | mp gr hd hg hb => exact ⟨_, gr, rfl, hd, hg, hb⟩
theorem setP_iff {t : TypeId} (h : setP P t = true) : ∃ kt et, P.underlying t = some (.map kt et) ∧ P.underlying kt = some .string ∧ (P.info? et).bind (·.zero) = some (.bool false) := by
 unfold setP at h
 split at h
 case h_2 => cases h
 rename_i kt et ht
 rw [Bool.and_eq_true] at h
 obtain ⟨h1, h2⟩ := h
 split at h1
 case h_2 => cases h1
 rename_i e1 e2
 split at h2
 case h_2 => cases h2
 rename_i e3
 exact ⟨kt, et, ht, e1, e3⟩
theorem hasKey_map {ks : List ByteArray} {x : ByteArray} : hasKey (ks.map fun s => .v (.string s)) x = ks.any fun t => decide (t = x) := by
 unfold hasKey
 rw [List.any_map]
 rfl
theorem ba_beq {x q : ByteArray} : (x == q) = decide (q = x) := by
 rw [Bool.eq_iff_iff, decide_eq_true_eq]
 show (x.data == q.data) = true ↔ _
 rw [beq_iff_eq, ByteArray.ext_iff]
 exact eq_comm
theorem find_set {x : ByteArray} : ∀ {es : List MapEntry} {ks : List ByteArray} {i : Nat}, es.map (fun e => (e.key, e.val)) = ks.map (fun s => (Value.string s, Value.bool true)) →
  (Instr.findNow .string (.string x) es i = some none ∧ (ks.any fun t => decide (t = x)) = false) ∨
  ∃ j e, Instr.findNow .string (.string x) es i = some (some (i + j, .bool true)) ∧ es[j]? = some e ∧ e.key = .string x ∧ e.val = .bool true ∧ (ks.any fun t => decide (t = x)) = true
 | [], [], i, _ => .inl ⟨rfl, rfl⟩
 | [], _ :: _, i, h => by simp at h
 | _ :: _, [], i, h => by simp at h
 | e :: es, q :: ks, i, h => by
  simp only [List.map_cons, List.cons.injEq, Prod.mk.injEq] at h
  obtain ⟨⟨h1, h2⟩, h3⟩ := h
  simp only [Instr.findNow, h1, Instr.sameNow, List.any_cons]
  rw [ba_beq]
  cases hx : decide (q = x) with
  | true => exact .inr ⟨0, e, by rw [h2]; rfl, rfl, by rw [h1, of_decide_eq_true hx], h2, rfl⟩
  | false =>
   rcases find_set (i := i + 1) h3 with ⟨a, b⟩ | ⟨j, e', a, b, c⟩
   ·exact .inl ⟨a, by rw [b]; rfl⟩
   ·exact .inr ⟨j + 1, e', by rw [← Nat.add_assoc, Nat.add_right_comm]; exact a, b, c.1, c.2.1, by rw [c.2.2]; rfl⟩
theorem getMap_run {r : Nat} {es : Array MapEntry} {clock : Nat} (hb : w.heap[r]? = some (.map es clock)) : (getObj r).run P w = .ok (.map es clock) w := by simp [getObj, Sem.run, hb]
theorem setMap_run {r : Nat} {es : Array MapEntry} {clock : Nat} (o : Obj) (hb : w.heap[r]? = some (.map es clock)) : (setObj r o).run P w = .ok () { w with heap := w.heap.setIfInBounds r o } := by simp [setObj, Sem.run, hb]
theorem checkKey_run {kt : TypeId} {x : ByteArray} {b : Bool} {n : Nat} (h : P.underlying kt = some .string) : (Instr.checkKey b (n + 1) kt (.string x)).run P w = .ok () w := by
 simp only [Instr.checkKey, Sem.run_bind, run_underlying h, Result.andThen_ok]
 rfl
theorem findKey_run {kt : TypeId} {x : ByteArray} {es : List MapEntry} {r : Option (Nat × Value)} (h : P.underlying kt = some .string) (hf : Instr.findNow .string (.string x) es 0 = some r) : (Instr.findKey kt (.string x) es).run P w = .ok r w := by
 simp only [Instr.findKey, Sem.run_bind, run_underlying h, Result.andThen_ok, hf]
 rfl
theorem SRel.setMp (h : SRel P B0 w0 G s w) {d b : Nat} {cs' : List AV} {r : Rec} {gr : GRec} {blk : Nat} {w' : World}
  (hr : s.acts[d]? = some r) (hg : G.acts[d]? = some gr) (hm : gr.mp b = some blk) (hnew : MapRel B0 G d b cs' blk w') (hother : ∀ c, c ≠ blk → w'.heap[c]? = w.heap[c]?)
  (hbelow : Below B0 w w') (hsz : w'.heap.size = w.heap.size) : SRel P B0 w0 G (s.setBox d b cs') w' := by
 have hrr := h.rec_ d r gr hr hg
 obtain ⟨hbl, cs0, hb0, hm0⟩ := hrr.mp b blk hm
 have hblt : b < r.boxes.length := (List.getElem?_eq_some_iff.1 hb0).1
 have hk : KeepsOwn (· = .box d b) G w G w' := fun c o ho hne => by
  refine ⟨ho, hother c (fun e => ?_), fun _ e => e⟩
  subst e
  rw [hm0.2.1] at ho
  injection ho with ho
  exact hne ho.symm
 refine ⟨fun c i v e => ?_, by simp only [Sig.setBox, Sig.onRec, List.length_modify]; exact h.len, h.llen, fun d' r' gr' h1 h2 => ?_, fun l lp r' h1 h2 => ?_, h.nls, h.nlm, h.below.trans hbelow, by rw [hsz]; exact h.low, fun c o ho => by rw [hsz]; exact h.ownlt c o ho⟩
 ·have hne : c ≠ blk := by
   rintro rfl
   rw [hm0.2.2.1] at e
   cases e
  rw [cells_congr (hother c hne) rfl]
  exact h.imm c i v e
 ·simp only [Sig.setBox, Sig.onRec, modify_get] at h1
  by_cases hd : d = d'
  ·subst hd
   rw [if_pos rfl, hr] at h1
   simp only [Option.map_some, Option.some.injEq] at h1
   rw [hg] at h2
   injection h2 with h2
   subst h1 h2
   refine ⟨by simpa using hrr.blen, hrr.tlen, fun b' cs'' blk' e1 e2 => ?_, fun b' blk' e1 e2 => ?_, fun g n T e1 e2 => ?_, fun i b' e1 => ?_, hrr.gsl, fun b' blk' e1 => ?_⟩
   ·have hbb : b ≠ b' := by
     rintro rfl
     rw [hbl] at e2; cases e2
    simp only [List.getElem?_set, if_neg hbb] at e1
    have hb' := hrr.box b' cs'' blk' e1 e2
    have hne : blk' ≠ blk := by
     rintro rfl
     obtain ⟨_, _, _, arr, ty, q4, _⟩ := hb'
     obtain ⟨_, _, _, ks, es, cl, _, q5, _⟩ := hm0
     rw [q4] at q5; cases q5
    exact hb'.keep (GLe.refl _ _ _) (fun y e => e) (hother _ hne) (fun _ e => e)
   ·have hbb : b ≠ b' := by
     rintro rfl
     rw [hbl] at e1; cases e1
    simp only [List.getElem?_set, if_neg hbb] at e2
    have hf := hrr.full b' blk' e1 e2; exact ⟨hf.1, by have := hf.2; simpa using this⟩
   ·have ht := hrr.tok g n T e1 e2
    have hs : ∀ (hn : n.isSome = true), G.own T.blk = some (.tok d g) ∧ w'.heap[T.blk]? = w.heap[T.blk]? ∧ ∀ i, G.I T.blk i = none → G.I T.blk i = none := fun hn => by
     obtain ⟨m, hm⟩ := Option.isSome_iff_exists.1 hn
     exact hk _ _ (ht.2 m hm).2.1 (fun e => by cases e)
    exact ht.keep (fun hn => (hs hn).1) (fun hn => (hs hn).2.1) (fun hn => (hs hn).2.2)
   ·have hm := hrr.mark i b' e1
    obtain ⟨k1, k2, _⟩ := hk _ _ hm.2.1 (fun e => by cases e)
    exact hm.keep k1 k2
   ·obtain ⟨hb', cs2, h2, h3⟩ := hrr.mp b' blk' e1
    by_cases hbb : b = b'
    ·subst hbb
     rw [hm] at e1
     injection e1 with e1
     subst e1
     exact ⟨hb', cs', by show (r.boxes.set b cs')[b]? = _; rw [List.getElem?_set_self hblt], hnew⟩
    ·exact ⟨hb', cs2, by show (r.boxes.set b cs')[b']? = _; rw [List.getElem?_set, if_neg hbb]; exact h2, h3.kept hk (fun e => by injection e with _ e; exact hbb e.symm)⟩
  ·rw [if_neg hd] at h1
   exact (h.rec_ d' r' gr' h1 h2).keep (GLe.refl _ _ _) hk (fun o ho => by
    subst ho
    refine ⟨fun b' e => ?_, fun g e => ?_, fun i e => ?_⟩
    ·injection e with e
     exact hd e
    ·cases e
    ·cases e)
 ·have hr' := h.loop l lp r' h1 h2
  obtain ⟨k1, k2, _⟩ := hk _ _ hr'.2.1 (fun e => by cases e)
  exact hr'.keep (fun _ _ _ _ => GLe.refl _ _ _) (Nat.le_refl _) k1 k2
theorem mkMap_sound (h : At P B0 w0 G k nl s w) : StepTo P B0 w0 G k nl s (mkMapOp s).2 (w.alloc (.map #[] 0)) (mkMapOp s).1 (.map (some w.heap.size)) := by
 obtain ⟨r, gr, hr, hg⟩ := h.rec_ (Nat.le_refl k)
 have hnl : gr.nl = nl := by obtain ⟨g', e1, e2⟩ := h.cur; rw [hg] at e1; injection e1 with e1; rw [e1]; exact e2
 have hrr := h.rel.rec_ k r gr hr hg
 have hmlt : ∀ b n, gr.mp b = some n → b < r.boxes.length := fun b n e => by
  obtain ⟨_, cs, h1, _⟩ := hrr.mp b n e
  exact (List.getElem?_eq_some_iff.1 h1).1
 let gf : GRec → GRec := fun q => { q with bl := q.bl ++ [none], mp := fun b => if b = r.boxes.length then some w.heap.size else q.mp b }
 let G' : Ghost := { G with acts := G.acts.modify k gf, own := fun b => if b = w.heap.size then some (.box k r.boxes.length) else G.own b }
 have hk : KeepsOwn (fun _ => False) G w G' (w.alloc (.map #[] 0)) := fun b o e _ => by
  have hlt := h.rel.ownlt b o e
  exact ⟨by simp only [G']; rw [if_neg (by omega)]; exact e, Below.heap_alloc _ _ _ hlt, fun _ e => e⟩
 have hle0 : RecLe gr (gf gr) := ⟨fun b blk e => get_old e, fun g T e => ⟨T, e, .refl T⟩, rfl, fun _ _ e => e, fun b n e => by
  have := hmlt b n e
  simp only [gf]
  rw [if_neg (by omega)]; exact e⟩
 have hnew : (w.alloc (.map #[] 0)).heap[w.heap.size]? = some (.map #[] 0) := World.alloc_heap_new w _
 have hle : GLe k nl G G' := ⟨fun _ _ _ e => e, fun d q _ e => by
  simp only [G', modify_get]
  by_cases hd : k = d
  ·subst hd
   rw [hg] at e
   injection e with e
   subst e
   exact ⟨_, by rw [if_pos rfl, hg]; rfl, hle0, fun _ => rfl⟩
  ·exact ⟨q, by rw [if_neg hd]; exact e, .refl q, fun _ => rfl⟩, fun _ _ _ e => e⟩
 have hstep := h.rel.onRec (G' := G') (w' := w.alloc (.map #[] 0)) hr hg (fun r => { r with boxes := r.boxes ++ [[AV.opq]] }) gf (fun _ => False) rfl rfl (fun _ _ _ e => e) hle0 rfl hk
  (fun o ho => ho.elim) ?_ (fun b i v e => ?_) ((Below.refl _ _).alloc h.rel.low _) (fun b o e => ?_)
 ·obtain ⟨hs, hle'⟩ := hstep
  have hs' : SRel P B0 w0 G' (mkMapOp s).2 (w.alloc (.map #[] 0)) := by
   simp only [mkMapOp, h.cur_eq, Sig.addBox]
   exact hs
  have hat := h.to hs' hle (by simp [mkMapOp, Sig.addBox, Sig.onRec])
  have hnb : s.nbox s.cur = r.boxes.length := by simp [Sig.nbox, h.cur_eq, hr]
  have hga : G'.acts[k]? = some (gf gr) := by
   show (G.acts.modify k _)[k]? = _
   rw [modify_get, if_pos rfl, hg]; rfl
  refine ⟨G', hat, hle' _ _, by simp [mkMapOp, Sig.addBox, Sig.onRec], ?_⟩
  simp only [mkMapOp]
  rw [hnb, h.cur_eq]
  exact .mp _ (Nat.le_refl _) hga (by simp [gf])
 ·refine ⟨by simp [gf, hrr.blen], hrr.tlen, fun b cs' blk e1 e2 => ?_, fun b blk e1 e2 => ?_, fun g n T e1 e2 => ?_, fun i b e1 => ?_, fun b n e1 => ?_, fun b blk2 e1 => ?_⟩
  ·have e2' : gr.bl[b]? = some (some blk) := by
    rcases get_push e2 with ⟨_, e2⟩ | ⟨_, e⟩
    ·exact e2
    ·cases e
   have e1' : r.boxes[b]? = some cs' := by
    rcases get_push e1 with ⟨_, e1⟩ | ⟨hb', _⟩
    ·exact e1
    ·have := (List.getElem?_eq_some_iff.1 e2').1; rw [hrr.blen] at this; omega
   exact (hrr.box b cs' blk e1' e2').kept (by rw [hnl]; exact hle) hk (fun _ x => x)
  ·have e1' : gr.bl[b]? = some (some blk) := by
    rcases get_push e1 with ⟨_, e1⟩ | ⟨_, e⟩
    ·exact e1
    ·cases e
   rcases get_push e2 with ⟨_, e2⟩ | ⟨_, e⟩
   ·have hf := hrr.full b blk e1' e2; exact ⟨hf.1, by have := hf.2; simp; omega⟩
   ·cases e
  ·have ht := hrr.tok g n T e1 e2
   have hs : ∀ (hn : n.isSome = true), G'.own T.blk = some (.tok k g) ∧ (w.alloc (.map #[] 0)).heap[T.blk]? = w.heap[T.blk]? ∧ ∀ i, G.I T.blk i = none → G'.I T.blk i = none := fun hn => by
    obtain ⟨m, hm⟩ := Option.isSome_iff_exists.1 hn
    exact hk _ _ (ht.2 m hm).2.1 (fun x => x)
   exact ht.keep (fun hn => (hs hn).1) (fun hn => (hs hn).2.1) (fun hn => (hs hn).2.2)
  ·have hm := hrr.mark i b e1
   obtain ⟨k1, k2, _⟩ := hk _ _ hm.2.1 (fun x => x)
   exact hm.keep k1 k2
  ·obtain ⟨blk, hb⟩ := hrr.gsl b n e1
   exact ⟨blk, get_old hb⟩
  ·simp only [gf] at e1
   split at e1
   ·rename_i hb
    injection e1 with e1
    subst hb e1
    refine ⟨?_, [AV.opq], ?_, h.rel.low, by simp [G'], h.rel.I_new, [], #[], 0, rfl, hnew, rfl⟩
    ·show (gr.bl ++ [none])[r.boxes.length]? = _
     rw [← hrr.blen, List.getElem?_append_right (Nat.le_refl _)]
     simp
    ·show (r.boxes ++ [[AV.opq]])[r.boxes.length]? = _
     simp
   ·obtain ⟨hb', cs2, h2, h3⟩ := hrr.mp b blk2 e1
    exact ⟨get_old hb', cs2, get_old h2, h3.kept hk fun x => x⟩
 ·have hlt := h.rel.I_lt e
  rw [World.cell?_alloc_lt _ _ _ (by exact hlt)]
  exact h.rel.imm b i v e
 ·simp only [G'] at e
  split at e
  ·rename_i hb; subst hb; simp
  ·have := h.rel.ownlt b o e; simp; omega
theorem At.mp (h : At P B0 w0 G k nl s w) {d b : Nat} {y : Value} {ks : List AV} (hx : Rel G k nl (.mp d b) y) (hks : s.mpKeys d b = some ks) :
  ∃ (blk : Nat) (gr : GRec) (r : Rec) (ss : List ByteArray) (es : Array MapEntry) (clock : Nat), y = .map (some blk) ∧ d ≤ k ∧ s.acts[d]? = some r ∧ G.acts[d]? = some gr ∧ gr.mp b = some blk ∧ r.boxes[b]? = some (.opq :: ks) ∧ ks = ss.map (fun s => .v (.string s)) ∧ MapRel B0 G d b (.opq :: ks) blk w ∧
   w.heap[blk]? = some (.map es clock) ∧ es.toList.map (fun e => (e.key, e.val)) = ss.map fun s => (Value.string s, Value.bool true) := by
 obtain ⟨blk, gr, rfl, hd, hg, hb⟩ := hx.inv_mp
 obtain ⟨r, gr', hr, hg'⟩ := h.rec_ hd
 rw [hg] at hg'
 injection hg' with hg'
 subst hg'
 obtain ⟨hbl, cs, h1, h2⟩ := (h.rel.rec_ d r gr hr hg).mp b blk hb
 have hcs : cs = .opq :: ks := by
  unfold Sig.mpKeys Sig.box at hks
  rw [hr] at hks
  simp only [Option.bind_some, h1] at hks
  split at hks
  ·rename_i q e
   injection hks with hks
   injection e with e
   rw [e, hks]
  ·cases hks
 subst hcs
 obtain ⟨q1, q2, q3, ss, es, clock, q4, q5, q6⟩ := h2
 have hss : ks = ss.map (fun s => .v (.string s)) := by injection q4
 exact ⟨blk, gr, r, ss, es, clock, rfl, hd, hr, hg, hb, h1, hss, ⟨q1, q2, q3, ss, es, clock, q4, q5, q6⟩, q5, q6⟩
theorem mapHas_sound (h : At P B0 w0 G k nl s w) {t : TypeId} {x kx v : AV} {y ky : Value} (ht : setP P t = true) (hx : Rel G k nl x y) (hkx : Rel G k nl kx ky) (hv : mapHasOp s x kx = some v) :
  ∃ z, (Instr.lookup t y ky false).run P w = .ok z w ∧ Rel G k nl v z := by
 obtain ⟨kt, et, ht, hkt, hz⟩ := setP_iff ht
 unfold mapHasOp at hv
 split at hv
 case h_2 => cases hv
 rename_i d b key
 obtain ⟨ks, hks, rfl⟩ := Option.map_eq_some_iff.1 hv
 have := hkx.inv_v
 subst this
 obtain ⟨blk, gr, r, ss, es, clock, rfl, hd, hr, hg, hb, h1, rfl, hM, q5, q6⟩ := h.mp hx hks
 rw [hasKey_map]
 rcases find_set (x := key) (i := 0) q6 with ⟨a, b⟩ | ⟨j, e, a, _, _, _, b⟩
 ·refine ⟨.bool false, ?_, by rw [b]; exact .cl (.v rfl)⟩
  simp only [Instr.lookup, Sem.run_bind, run_underlying ht, Result.andThen_ok, getMap_run q5, Sem.run_pure, checkKey_run hkt, findKey_run hkt a, zeroValue_run hz]
  rfl
 ·refine ⟨.bool true, ?_, by rw [b]; exact .cl (.v rfl)⟩
  simp only [Instr.lookup, Sem.run_bind, run_underlying ht, Result.andThen_ok, getMap_run q5, Sem.run_pure, checkKey_run hkt, findKey_run hkt a]
  rfl
theorem modify_same {es : Array MapEntry} {j : Nat} {e : MapEntry} {f : MapEntry → MapEntry} (h : es.toList[j]? = some e) (hf : f e = e) : es.modify j f = es := by
 refine Array.ext (by simp) fun i h1 h2 => ?_
 rw [Array.getElem_modify]
 split
 ·rename_i hij
  subst hij
  have : es[j] = e := by
   rw [List.getElem?_eq_some_iff] at h
   obtain ⟨h3, h4⟩ := h
   rw [← h4]; simp
  rw [this, hf]
 ·rfl
theorem mapAdd_sound (h : At P B0 w0 G k nl s w) {t : TypeId} {x kx vx : AV} {y ky vy : Value} {s' : Sig} (ht : setP P t = true) (hx : Rel G k nl x y) (hkx : Rel G k nl kx ky) (hvx : Rel G k nl vx vy) (hv : mapAddOp s x kx vx = some s') :
  ∃ w', (Instr.mapUpdate t y ky vy).run P w = .ok () w' ∧ ∃ G', At P B0 w0 G' k nl s' w' ∧ GLe (k + 1) s.loops.length G G' ∧ s'.loops.length = s.loops.length := by
 obtain ⟨kt, et, ht, hkt, hz⟩ := setP_iff ht
 unfold mapAddOp at hv
 split at hv
 case h_2 => cases hv
 rename_i d b key
 split at hv
 case isFalse => cases hv
 rename_i hcond
 obtain ⟨_, hdk⟩ := hcond
 rw [h.cur_eq] at hdk
 subst hdk
 obtain ⟨ks, hks, hv⟩ := Option.map_eq_some_iff.1 hv
 have e1 := hkx.inv_v
 have e2 := hvx.inv_v
 subst e1 e2
 obtain ⟨blk, gr, r, ss, es, clock, rfl, hd, hr, hg, hb, h1, rfl, hM, q5, q6⟩ := h.mp hx hks
 rw [hasKey_map] at hv
 have hsize : blk < w.heap.size := (Array.getElem?_eq_some_iff.1 q5).1
 rcases find_set (x := key) (i := 0) q6 with ⟨a, b'⟩ | ⟨j, e, a, c1, c2, c3, b'⟩
 ·rw [b', if_neg (by decide)] at hv
  subst hv
  refine ⟨{ w with heap := w.heap.setIfInBounds blk (.map (es.push { key := .string key, val := .bool true, born := clock }) (clock + 1)) }, ?_, G, ?_, GLe.refl _ _ _, by simp [Sig.setBox, Sig.onRec]⟩
  ·simp only [Instr.mapUpdate, Sem.run_bind, run_underlying ht, Result.andThen_ok, getMap_run q5, Sem.run_pure, checkKey_run hkt, findKey_run hkt a, setMap_run _ q5]
  ·have hs := h.rel.setMp (w' := { w with heap := w.heap.setIfInBounds blk (.map (es.push { key := .string key, val := .bool true, born := clock }) (clock + 1)) }) (cs' := .opq :: (ss.map (fun s => .v (.string s)) ++ [.v (.string key)])) hr hg hb
    ⟨hM.1, hM.2.1, hM.2.2.1, ss ++ [key], es.push { key := .string key, val := .bool true, born := clock }, clock + 1, by simp, by simp [hsize], by simp [q6]⟩
    (fun c hc => by simp [Array.getElem?_setIfInBounds, Ne.symm hc]) ?_ (by simp)
   ·exact h.to hs (GLe.refl _ _ _) (by simp [Sig.setBox, Sig.onRec])
   ·refine ⟨rfl, rfl, rfl, by simp, fun c hc => ?_⟩
    have := hM.1
    show (w.heap.setIfInBounds blk _)[c]? = w.heap[c]?
    rw [Array.getElem?_setIfInBounds, if_neg (by omega)]
 ·rw [b', if_pos rfl] at hv
  subst hv
  refine ⟨w, ?_, G, h, GLe.refl _ _ _, rfl⟩
  have hj : ((es[0 + j]?).map (·.key)).getD (Value.string key) = .string key := by
   rw [Nat.zero_add, ← Array.getElem?_toList, c1]; exact c2
  have hmod : es.modify (0 + j) (fun q => { q with key := Value.string key, val := Value.bool true }) = es := modify_same (by rw [Nat.zero_add]; exact c1) (by rw [← c2, ← c3])
  have hset : w.heap.setIfInBounds blk (.map es clock) = w.heap := by
   refine Array.ext (by simp) fun i h1 h2 => ?_
   rw [Array.getElem_setIfInBounds]
   split
   ·rename_i hi
    subst hi
    rw [Array.getElem?_eq_some_iff] at q5
    exact q5.2.symm
   ·rfl
  have hsame : { w with heap := w.heap.setIfInBounds blk (.map es clock) } = w := by rw [hset]
  have hst : (Instr.keyThatStays (Value.string key) (Value.string key)).run P w = .ok (.string key) w := by
   unfold Instr.keyThatStays
   have : Instr.sameBits 10000 (Value.string key) (Value.string key) = true := by
    simp only [Instr.sameBits, ba_beq, decide_true]
   rw [if_pos this]; rfl
  simp only [Instr.mapUpdate, Sem.run_bind, run_underlying ht, Result.andThen_ok, getMap_run q5, checkKey_run hkt, findKey_run hkt a, hj, hst, hmod, setMap_run _ q5, hsame]
end
end Go.Ax
