/-
  Elements, fields, built values and conversions.
-/
import Derived.Test.YtfmojojicndbcaaAxL
import Derived.Laws.IdiomStrings
import Derived.Laws.MakeOwn
namespace Go.Ax
open Go.RowKit

section
variable {P : Program} {B0 : Nat} {w0 : World} {G : Ghost} {k nl : Nat} {w : World} {s : Sig}

theorem idx_rel {x : AV} {y : Value} {n j : Nat} (hx : Rel G k nl x y) (h : idx x n = some j) : ∃ kd z, y = .int kd z ∧ 0 ≤ z ∧ z < n ∧ z.toNat = j := by
  unfold idx at h
  split at h
  · obtain rfl := hx.inv_v
    split at h
    · rename_i hc
      injection h with h
      exact ⟨_, _, rfl, hc.1, hc.2, h⟩
    · cases h
  · cases h

theorem indexSl_sound {t e : TypeId} {es : Nat} {a i v : AV} {x y : Value} (ht : P.underlying t = some (.slice e)) (hs : sizeP P e = some es) (hx : Rel G k nl a x) (hy : Rel G k nl i y)
    (h : indexAddrOp none es a i = some v) : ∃ z, (Instr.indexAt t x y).run P w = .ok z w ∧ Rel G k nl v z := by
  unfold indexAddrOp at h
  split at h <;> try contradiction
  · rename_i o e1 xs _
    split at h
    case isFalse => cases h
    rename_i he
    subst he
    obtain ⟨j, hj, h⟩ := Option.bind_eq_some_iff.1 h
    obtain ⟨r, hr, rfl⟩ := Option.map_eq_some_iff.1 h
    obtain ⟨kd, z, rfl, z0, z1, rfl⟩ := idx_rel hy hj
    obtain ⟨hjl, hr⟩ := List.getElem?_eq_some_iff.1 hr
    rcases hx.inv_slice with ⟨_, rfl, _⟩ | ⟨_, p, cap, rfl, hsp, hcap, hxc, _⟩
    · simp at hjl
    · refine ⟨.pointer (some (p.add (z.toNat * e1))), ?_, ?_⟩
      · simp [Instr.indexAt, run_underlying ht, asIntOf, z0, z1, sizeOf_run hs]
      · cases hxc with
        | empty => exact absurd hjl (Nat.not_lt_zero _)
        | @slice _ _ _ blk off _ f ho hc hes hcell hI hR =>
          rw [addr_add]
          subst hr
          refine .cl (.eptr (off := 0) (o0 := off + z.toNat * e1) (fun q => f z.toNat q) (fun c hc => hcell _ (List.getElem_mem hjl) c hc) (fun q hq => hI _ hjl q hq) (fun q hq => hR _ hjl q hq))
  · rename_i d b off e1 n cap _
    split at h
    case isFalse => cases h
    rename_i he
    subst he
    obtain ⟨j, hj, rfl⟩ := Option.map_eq_some_iff.1 h
    obtain ⟨kd, z, rfl, z0, z1, rfl⟩ := idx_rel hy hj
    obtain ⟨blk, gr, rfl, hd, hg, hbl, hn⟩ := hx.inv_rsl
    refine ⟨.pointer (some ⟨blk, off + z.toNat * e1, none⟩), ?_, .ptr gr hd hg hbl⟩
    simp [Instr.indexAt, run_underlying ht, asIntOf, z0, z1, sizeOf_run hs, addr_add]

theorem indexArr_sound {t e : TypeId} {N es : Nat} {a i v : AV} {x y : Value} (ht : P.underlying t = some (.array N e)) (hs : sizeP P e = some es) (hx : Rel G k nl a x) (hy : Rel G k nl i y)
    (h : indexAddrOp (some N) es a i = some v) : ∃ z, (Instr.indexAt t x y).run P w = .ok z w ∧ Rel G k nl v z := by
  unfold indexAddrOp at h
  split at h <;> try contradiction
  · rename_i n0 d b off hk
    injection hk with hk
    subst hk
    obtain ⟨j, hj, rfl⟩ := Option.map_eq_some_iff.1 h
    obtain ⟨kd, z, rfl, z0, z1, rfl⟩ := idx_rel hy hj
    obtain ⟨blk, gr, rfl, hd, hg, hbl⟩ := hx.inv_ptr
    refine ⟨.pointer (some ⟨blk, off + z.toNat * es, none⟩), ?_, .ptr gr hd hg hbl⟩
    simp [Instr.indexAt, run_underlying ht, asIntOf, z0, z1, sizeOf_run hs, addr_add, Instr.sureAddr]
  · rename_i n0 cs off hk
    injection hk with hk
    subst hk
    obtain ⟨j, hj, rfl⟩ := Option.map_eq_some_iff.1 h
    obtain ⟨kd, z, rfl, z0, z1, rfl⟩ := idx_rel hy hj
    obtain ⟨blk, o0, f, rfl, hcell, hI, hR⟩ := hx.inv_eptr
    refine ⟨.pointer (some ⟨blk, o0 + (off + z.toNat * es), none⟩), ?_, .cl (.eptr f hcell hI hR)⟩
    simp [Instr.indexAt, run_underlying ht, asIntOf, z0, z1, sizeOf_run hs, addr_add, Instr.sureAddr, Nat.add_assoc]

theorem fieldAddr_sound {t : TypeId} {fs : Array Field} {f : Field} {i n : Nat} {a v : AV} {x : Value} (ht : P.underlying t = some (.struct fs)) (hf : fs[i]? = some f) (hn : sizeP P f.type = some n) (h0 : 0 < n)
    (hx : Rel G k nl a x) (h : ptrAdd f.offset a = some v) : ∃ z, (Instr.fieldAt t x i).run P w = .ok z w ∧ Rel G k nl v z := by
  have hne : n ≠ 0 := by omega
  unfold ptrAdd at h
  split at h <;> try contradiction
  · rename_i d b off
    injection h with h
    subst h
    obtain ⟨blk, gr, rfl, hd, hg, hbl⟩ := hx.inv_ptr
    refine ⟨_, ?_, .ptr gr hd hg hbl⟩
    simp [Instr.fieldAt, run_underlying ht, hf, Instr.sureAddr, fieldPlace, sizeOf_run hn, hne, addr_add]
  · rename_i cs off
    injection h with h
    subst h
    obtain ⟨blk, o0, g, rfl, hcell, hI, hR⟩ := hx.inv_eptr
    refine ⟨.pointer (some ⟨blk, o0 + (off + f.offset), none⟩), ?_, .cl (.eptr g hcell hI hR)⟩
    simp [Instr.fieldAt, run_underlying ht, hf, Instr.sureAddr, fieldPlace, sizeOf_run hn, hne, addr_add, Nat.add_assoc]

theorem indexStr_sound {t : TypeId} {a i v : AV} {x y : Value} (ht : P.underlying t = some .string) (hx : Rel G k nl a x) (hy : Rel G k nl i y)
    (h : indexStrOp a i = some v) : ∃ z, (Instr.index t x y).run P w = .ok z w ∧ Rel G k nl v z := by
  unfold indexStrOp at h
  split at h
  · rename_i q
    obtain rfl := hx.inv_v
    obtain ⟨j, hj, h⟩ := Option.bind_eq_some_iff.1 h
    obtain ⟨b, hb, rfl⟩ := Option.map_eq_some_iff.1 h
    obtain ⟨kd, z, rfl, z0, z1, rfl⟩ := idx_rel hy hj
    refine ⟨_, ?_, .val _ rfl⟩
    simp only [Instr.index, asIntOf, Sem.run_bind, run_underlying ht, Result.andThen_ok, Sem.run_pure, if_pos z0, hb]
  · cases h

theorem index_sound {t e : TypeId} {N es : Nat} {g : Bool} {a i v : AV} {x y : Value} (ht : P.underlying t = some (.array N e)) (hg : isAggP P e = some g) (hn : sizeP P e = some es) (hx : Rel G k nl a x) (hy : Rel G k nl i y)
    (h : indexOp N es g a i = some v) : ∃ z, (Instr.index t x y).run P w = .ok z w ∧ Rel G k nl v z := by
  unfold indexOp at h
  split at h
  · rename_i cs
    obtain ⟨arr, rfl, hl, hcell, hR⟩ := hx.inv_agg
    obtain ⟨j, hj, h⟩ := Option.bind_eq_some_iff.1 h
    obtain ⟨kd, z, rfl, z0, z1, rfl⟩ := idx_rel hy hj
    rcases part_rel (f := fun i => arr.getD i Go.undef) h hcell hR with ⟨rfl, hle, hv⟩ | ⟨rfl, hlt, hv⟩
    · refine ⟨_, ?_, hv⟩
      simp only [Instr.index, asIntOf, Sem.run_bind, run_underlying ht, Result.andThen_ok, Sem.run_pure, Go.part, isAgg_run hg, if_true, sizeOf_run hn]
      rw [if_pos ⟨z0, z1⟩]
      simp only [Sem.run_bind, Result.andThen_ok, sizeOf_run hn, isAgg_run hg, if_true, Sem.run_pure]
      congr 2
      apply Array.ext
      · simp; omega
      · intro j h1 h2
        simp at h1 h2 ⊢
        have : z.toNat * es + j < arr.size := by omega
        simp [Array.getD, this]
    · refine ⟨_, ?_, hv⟩
      have : z.toNat * es < arr.size := by omega
      simp only [Instr.index, asIntOf, Sem.run_bind, run_underlying ht, Result.andThen_ok, Sem.run_pure, Go.part, sizeOf_run hn]
      rw [if_pos ⟨z0, z1⟩]
      simp only [Sem.run_bind, Result.andThen_ok, sizeOf_run hn, isAgg_run hg, Bool.false_eq_true, if_false, Sem.run_pure]
      simp [Array.getD, this]
  · cases h

/-! ### Built values -/

theorem foldl_setA : ∀ (vs : List Value) (n o : Nat) (arr : Array Value), (vs.zipIdx n).foldl (fun (cs : Array Value) (p : Value × Nat) => cs.setIfInBounds (o + p.2) p.1) arr = setA arr (o + n) vs
  | [], _, _, _ => rfl
  | v :: r, n, o, arr => by
    simp only [List.zipIdx_cons, List.foldl_cons, setA]
    rw [foldl_setA r (n + 1) o]
    rfl

theorem foldl_arr (cs : Array Value) (o : Nat) (arr : Array Value) : cs.zipIdx.foldl (fun (c : Array Value) (p : Value × Nat) => c.setIfInBounds (o + p.2) p.1) arr = setA arr o cs.toList := by
  rw [← Array.foldl_toList, Array.toList_zipIdx, foldl_setA, Nat.add_zero]

/-- One part set. -/
theorem fillOne {cs : List AV} {arr : Array Value} {o size : Nat} {x : AV} {v : Value} {cs' : List AV} (hrow : Row2 (Rel G k nl) cs arr) (hcell : ∀ c, c ∈ cs → c.isCell = true) (hx : Rel G k nl x v) (h : fillRow cs o size x = some cs') :
    v.cells.size = size ∧ o + size ≤ arr.size ∧ Row2 (Rel G k nl) cs' (setA arr o v.cells.toList) ∧ ∀ c, c ∈ cs' → c.isCell = true := by
  unfold fillRow at h
  split at h
  · rename_i hc
    obtain ⟨h1, h2, h3⟩ := hc
    injection h with h
    subst h
    have hv := hx.cells h3
    refine ⟨hv.1.trans h1, by rw [hrow.1]; exact h2, Row2.setA (by simpa using hv.1) (fun i hi hj => ?_) o hrow, fun c hc => ?_⟩
    · have := hv.2 i hi
      have he : v.cells.getD i Go.undef = v.cells.toList[i] := by
        have : i < v.cells.size := by simpa using hj
        simp [Array.getD, this]
      rw [← he]
      exact this
    · rcases setCells_mem hc with hc | hc
      · exact hcell c hc
      · exact List.all_eq_true.1 h3 c hc
  · cases h

theorem fill_sound {ρ : Nat → AV} {a : Act} (hR : TmpsRel G k nl ρ a) (place : Nat → Option (Nat × Nat)) : ∀ (parts : List (Nat × Operand)) (ps : List (Nat × Nat × AOpd)) (cs cs' : List AV) (arr : Array Value),
    compParts P place parts = some ps → Row2 (Rel G k nl) cs arr → (∀ c, c ∈ cs → c.isCell = true) → buildCells cs (evalT ρ) ps = some cs' →
    ∃ arr', Instr.fill place arr (parts.map fun p => (p.1, a.eval p.2)) = some arr' ∧ Row2 (Rel G k nl) cs' arr' ∧ ∀ c, c ∈ cs' → c.isCell = true
  | [], ps, cs, cs', arr, hp, hrow, hcell, h => by
    simp only [compParts] at hp
    injection hp with hp
    subst hp
    simp only [buildCells] at h
    injection h with h
    subst h
    exact ⟨arr, rfl, hrow, hcell⟩
  | (i, x) :: r, ps, cs, cs', arr, hp, hrow, hcell, h => by
    simp only [compParts] at hp
    split at hp
    · rename_i off size y s' e1 e2 e3
      injection hp with hp
      subst hp
      simp only [buildCells] at h
      split at h
      · rename_i cs1 hf
        have hx := opd_rel e2 hR
        obtain ⟨g1, g2, g3, g4⟩ := fillOne hrow hcell hx hf
        obtain ⟨arr', k1, k2, k3⟩ := fill_sound hR place r s' cs1 cs' _ e3 g3 g4 h
        refine ⟨arr', ?_, k2, k3⟩
        simp only [List.map_cons, Instr.fill, e1]
        rw [if_neg (by simp only [Bool.or_eq_true, bne_iff_ne, decide_eq_true_eq]; omega), foldl_arr]
        exact k1
      · cases h
    · cases hp

theorem zeroP_run {t : TypeId} {zs : List AV} (h : zeroP P t = some zs) : ∃ z, (P.info? t).bind (·.zero) = some z ∧ mapO ofCell z.cells.toList = some zs := by
  unfold zeroP at h
  obtain ⟨z, h1, h2⟩ := Option.bind_eq_some_iff.1 h
  exact ⟨z, h1, h2⟩

theorem places_run (w : World) : ∀ (fs : List Field), (∀ f, f ∈ fs → (sizeP P f.type).isSome = true) →
    (fs.mapM fun f => Functor.map (Prod.mk f.offset) (sizeOf f.type)).run P w = .ok (fs.map fun f => (f.offset, (sizeP P f.type).getD 0)) w
  | [], _ => by simp
  | f :: fs, h => by
    obtain ⟨n, hn⟩ := Option.isSome_iff_exists.1 (h f (by simp))
    simp [List.mapM_cons, sizeOf_run hn, places_run w fs (fun g hg => h g (by simp [hg])), hn]

theorem buildStruct_sound {t : TypeId} {zs cs : List AV} {fs : Array Field} {parts : Array (Nat × Operand)} {ps : List (Nat × Nat × AOpd)} {ρ : Nat → AV} {a : Act} (hR : TmpsRel G k nl ρ a) (hz : zeroP P t = some zs)
    (ht : P.underlying t = some (.struct fs)) (hf : fs.toList.all (fun f => (sizeP P f.type).isSome) = true)
    (hp : compParts P (fun i => match fs[i]? with
        | some f => (sizeP P f.type).map fun s => (f.offset, s)
        | none => none) parts.toList = some ps) (h : buildCells zs (evalT ρ) ps = some cs) :
    ∃ z, (Instr.build t (parts.map fun (i, x) => (i, a.eval x))).run P w = .ok z w ∧ Rel G k nl (.agg cs) z := by
  obtain ⟨z, h1, h2⟩ := zeroP_run hz
  obtain ⟨c1, c2, c3⟩ := cells_rel (I := G.I) h2
  obtain ⟨arr', k1, k2, k3⟩ := fill_sound hR _ parts.toList ps zs cs z.cells hp ⟨c1, fun i hi => .cl (c3 i hi)⟩ c2 h
  refine ⟨.agg arr', ?_, .agg k2.1 k3 k2.2⟩
  have hall : ∀ f, f ∈ fs.toList → (sizeP P f.type).isSome = true := List.all_eq_true.1 hf
  have hpl : (fun x : Nat => (fs.toList.map fun f : Field => (f.offset, (sizeP P f.type).getD 0)).toArray[x]?) = (fun i => match fs[i]? with
        | some f => (sizeP P f.type).map fun s => (f.offset, s)
        | none => none) := by
    funext i
    by_cases hi : i < fs.size
    · obtain ⟨n, hn⟩ := Option.isSome_iff_exists.1 (hall fs[i] (by simp))
      simp [hi, hn]
    · simp [hi]
  have hm : (parts.map fun (i, x) => (i, a.eval x)).toList = parts.toList.map fun p => (p.1, a.eval p.2) := by simp
  simp only [Instr.build, Sem.run_bind, zeroValue_run h1, Result.andThen_ok, run_underlying ht, Sem.run_pure, Array.mapM_eq_mapM_toList, Sem.run_map]
  have hpr := places_run w fs.toList hall
  have hpr' : (fs.toList.mapM fun f => (do pure (f.offset, ← sizeOf f.type) : Sem (Nat × Nat))).run P w = .ok (fs.toList.map fun f : Field => (f.offset, (sizeP P f.type).getD 0)) w := by
    rw [← hpr]
    rfl
  simp only [hpr', Sem.run_bind, Sem.run_map, Result.andThen_ok, hm, hpl, k1, Sem.run_pure]

theorem buildArr_sound {t e : TypeId} {N es : Nat} {zs cs : List AV} {parts : Array (Nat × Operand)} {ps : List (Nat × Nat × AOpd)} {ρ : Nat → AV} {a : Act} (hR : TmpsRel G k nl ρ a) (hz : zeroP P t = some zs)
    (ht : P.underlying t = some (.array N e)) (hs : sizeP P e = some es)
    (hp : compParts P (fun i => some (i * es, es)) parts.toList = some ps) (h : buildCells zs (evalT ρ) ps = some cs) :
    ∃ z, (Instr.build t (parts.map fun (i, x) => (i, a.eval x))).run P w = .ok z w ∧ Rel G k nl (.agg cs) z := by
  obtain ⟨z, h1, h2⟩ := zeroP_run hz
  obtain ⟨c1, c2, c3⟩ := cells_rel (I := G.I) h2
  obtain ⟨arr', k1, k2, k3⟩ := fill_sound hR _ parts.toList ps zs cs z.cells hp ⟨c1, fun i hi => .cl (c3 i hi)⟩ c2 h
  refine ⟨.agg arr', ?_, .agg k2.1 k3 k2.2⟩
  have hm : (parts.map fun (i, x) => (i, a.eval x)).toList = parts.toList.map fun p => (p.1, a.eval p.2) := by simp
  simp only [Instr.build, Sem.run_bind, zeroValue_run h1, Result.andThen_ok, run_underlying ht, Sem.run_pure, sizeOf_run hs, hm, k1]

end
end Go.Ax
