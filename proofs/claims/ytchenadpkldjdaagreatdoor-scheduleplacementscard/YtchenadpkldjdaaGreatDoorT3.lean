/-
  The other operations without a call: each one's run (2).
-/
import Derived.Test.YtchenadpkldjdaaGreatDoorT2
import Derived.Laws.IdiomStrings
import Derived.Laws.MakeOwn
namespace Go.Ax
open Go.RowKit

section
variable {P : Program} {B0 : Nat} {w0 : World} {G : Ghost} {k nl : Nat} {w : World} {s : Sig}

theorem pick_sound {c a b v : AV} {x y z : Value} (hx : Rel G k nl c x) (hy : Rel G k nl a y) (hz : Rel G k nl b z) (h : pickOp c a b = some v) :
    ∃ t : Bool, x = .bool t ∧ Rel G k nl v (if t then y else z) := by
  unfold pickOp at h
  split at h
  · rename_i t
    obtain rfl := hx.inv_v
    injection h with h
    subst h
    refine ⟨t, rfl, ?_⟩
    cases t
    · exact hz
    · exact hy
  · cases h

theorem unOp_sound {op : UnOp} {a v : AV} {x : Value} (hx : Rel G k nl a x) (h : unOp op a = some v) : ∃ z, (Op.unary op x).run P w = .ok z w ∧ Rel G k nl v z := by
  unfold unOp at h
  split at h
  · obtain rfl := hx.inv_v
    cases op <;> simp only at h <;> first
      | (injection h with h; subst h; exact ⟨_, by simp [Op.unary], .val _ rfl⟩)
      | cases h
  · obtain rfl := hx.inv_v
    cases op <;> simp only at h <;> first
      | (injection h with h; subst h; exact ⟨_, by simp [Op.unary, Op.intArith], .val _ rfl⟩)
      | cases h
  · cases h

theorem nilCheck_sound {a v : AV} {x : Value} (hx : Rel G k nl a x) (h : nilCheckOp a = some v) : Rel G k nl v x ∧ (x ≠ .pointer none ∧ x ≠ .nilIface ∧ x ≠ .nilFunc ∧ ∀ nm f c, x ≠ .func (.method nm) f c) := by
  unfold nilCheckOp at h
  split at h
  · injection h with h; subst h; obtain ⟨_, _, rfl, _⟩ := hx.inv_ptr; exact ⟨hx, by simp, by simp, by simp, by simp⟩
  · injection h with h; subst h; obtain ⟨_, _, _, rfl, _⟩ := hx.inv_eptr; exact ⟨hx, by simp, by simp, by simp, by simp⟩
  · injection h with h; subst h; obtain ⟨_, _, rfl, _⟩ := hx.inv_fn; exact ⟨hx, by simp, by simp, by simp, by simp⟩
  · injection h with h; subst h; obtain ⟨_, rfl, _⟩ := hx.inv_yield; exact ⟨hx, by simp, by simp, by simp, by simp⟩
  · injection h with h; subst h; obtain ⟨_, rfl, _⟩ := hx.inv_iface; exact ⟨hx, by simp, by simp, by simp, by simp⟩
  · cases h

theorem closeAll_rel {cs ds : List AV} {arr : Array Value} (h : closeAll cs = some ds) (hl : arr.size = cs.length) (hcell : ∀ c, c ∈ cs → c.isCell = true) (hR : ∀ i (hi : i < cs.length), Rel G k nl cs[i] (arr.getD i Go.undef)) :
    ds.length = cs.length ∧ (∀ c, c ∈ ds → c.isCell = true) ∧ ∀ i (hi : i < ds.length), RelC G.I ds[i] (arr.getD i Go.undef) := by
  let _ := hl
  obtain ⟨h1, h2⟩ := closeAll_spec h
  refine ⟨h1, fun c hc => ?_, fun i hi => (hR i (by omega)).close (h2 i (by omega) hi)⟩
  obtain ⟨i, hi, rfl⟩ := List.getElem_of_mem hc
  exact close_isCell (h2 i (by omega) hi) (hcell _ (List.getElem_mem _))

theorem iface_sound {t : TypeId} {a v : AV} {x : Value} (hx : Rel G k nl a x) (h : ifaceOp t a = some v) : Rel G k nl v (.iface t x) := by
  unfold ifaceOp at h
  split at h
  · rename_i cs
    obtain ⟨arr, rfl, hl, hcell, hR⟩ := hx.inv_agg
    cases hc : closeAll cs with
    | none => rw [hc] at h; cases h
    | some ds =>
      rw [hc] at h
      injection h with h
      subst h
      obtain ⟨h1, h2, h3⟩ := closeAll_rel hc hl hcell hR
      exact .cl (.iface (.agg (by rw [hl, h1]) h2 h3))
  · split at h
    · injection h with h
      subst h
      exact .cl (.iface (hx.closed1 (by assumption)))
    · cases h

theorem mkFn_sound {f : FuncId} {first caps : List Operand} {af ac : List AOpd} {ρ : Nat → AV} {a : Act} (hR : TmpsRel G k nl ρ a) (hf : mapO compOpd first = some af) (hc : mapO compOpd caps = some ac) (hcl : (af.map (evalT ρ)).all AV.isClosedV = true) :
    Rel G k nl (.fn f (af.map (evalT ρ)) (ac.map (evalT ρ))) (.func (.func f) (first.toArray.map a.eval) (caps.toArray.map a.eval)) := by
  obtain ⟨l1, h1⟩ := mapO_spec hf
  obtain ⟨l2, h2⟩ := mapO_spec hc
  refine .fn (by simp [l1]) (by simp [l2]) (fun i hi => ?_) (fun i hi => ?_)
  · have hi' : i < af.length := by simpa using hi
    have hi'' : i < first.length := by omega
    have := opd_rel (h1 i hi'' hi') hR
    have hcl' : (evalT ρ af[i]).isClosedV = true := List.all_eq_true.1 hcl _ (List.mem_map_of_mem (List.getElem_mem hi'))
    have e : (first.toArray.map a.eval).getD i Go.undef = a.eval first[i] := by simp [Array.getD, hi'']
    rw [e]
    simp only [List.getElem_map]
    exact this.closedV hcl'
  · have hi' : i < ac.length := by simpa using hi
    have hi'' : i < caps.length := by omega
    have := opd_rel (h2 i hi'' hi') hR
    have e : (caps.toArray.map a.eval).getD i Go.undef = a.eval caps[i] := by simp [Array.getD, hi'']
    rw [e]
    simpa using this

theorem field_sound {t : TypeId} {fs : Array Field} {f : Field} {i n : Nat} {g : Bool} {a v : AV} {x : Value} (ht : P.underlying t = some (.struct fs)) (hf : fs[i]? = some f) (hg : isAggP P f.type = some g) (hn : sizeP P f.type = some n) (hx : Rel G k nl a x)
    (h : fieldOp g n f.offset a = some v) : ∃ z, (Instr.field t x i).run P w = .ok z w ∧ Rel G k nl v z := by
  unfold fieldOp at h
  split at h
  · rename_i cs
    obtain ⟨arr, rfl, hl, hcell, hR⟩ := hx.inv_agg
    rcases part_rel (f := fun i => arr.getD i Go.undef) h hcell hR with ⟨rfl, hle, hv⟩ | ⟨rfl, hlt, hv⟩
    · refine ⟨_, ?_, hv⟩
      simp only [Instr.field, Sem.run_bind, run_underlying ht, Result.andThen_ok, hf, asAgg, Sem.run_pure, Go.part, isAgg_run hg, if_true, sizeOf_run hn]
      congr 2
      apply Array.ext
      · simp; omega
      · intro j h1 h2
        simp at h1 h2 ⊢
        have : f.offset + j < arr.size := by omega
        simp [Array.getD, this]
    · refine ⟨_, ?_, hv⟩
      have : f.offset < arr.size := by omega
      simp only [Instr.field, Sem.run_bind, run_underlying ht, Result.andThen_ok, hf, asAgg, Sem.run_pure, Go.part, isAgg_run hg, Bool.false_eq_true, if_false]
      simp [Array.getD, this]
  · cases h

theorem extract_sound {i : Nat} {a v : AV} {x : Value} (hx : Rel G k nl a x) (h : extractOp i a = some v) : ∃ z, (Instr.extract x i).run P w = .ok z w ∧ Rel G k nl v z := by
  unfold extractOp at h
  split at h
  · rename_i vs
    obtain ⟨arr, rfl, hl, hR⟩ := hx.inv_tuple
    obtain ⟨h1, h2⟩ := List.getElem?_eq_some_iff.1 h
    have := hR i h1
    rw [h2] at this
    refine ⟨_, ?_, this⟩
    have hi : i < arr.size := by omega
    simp [Instr.extract, hi, Array.getD]
  · cases h

theorem len_sound {t : TypeId} {ty : TypeId} {str : Bool} {a v : AV} {x : Value} (ht : (str = false ∧ ∃ e, P.underlying t = some (.slice e)) ∨ (str = true ∧ P.underlying t = some .string)) (hx : Rel G k nl a x) (h : lenOp str a = some v) :
    ∃ z, (Builtin.len_ #[t] ty #[x]).run P w = .ok z w ∧ Rel G k nl v z := by
  unfold lenOp at h
  rcases ht with ⟨rfl, e, ht⟩ | ⟨rfl, ht⟩
  · split at h
    · injection h with h
      subst h
      rcases hx.inv_slice with ⟨_, rfl, rfl⟩ | ⟨_, p, cap, rfl, _⟩
      · exact ⟨_, by simp [Builtin.len_, run_underlying ht, goInt], .val _ rfl⟩
      · exact ⟨_, by simp [Builtin.len_, run_underlying ht, goInt], .val _ rfl⟩
    · injection h with h
      subst h
      obtain ⟨blk, gr, rfl, _⟩ := hx.inv_rsl
      exact ⟨_, by simp [Builtin.len_, run_underlying ht, goInt], .val _ rfl⟩
    · cases h
    · cases h
  · split at h
    · cases h
    · cases h
    · injection h with h
      subst h
      obtain rfl := hx.inv_v
      exact ⟨_, by simp [Builtin.len_, run_underlying ht, goInt], .val _ rfl⟩
    · cases h

/-! ### Slices -/

theorem asNat_rel {x : AV} {y : Value} {m n : Nat} (hx : Rel G k nl x y) (h : asNat x m = some n) : ∃ kd z, y = .int kd z ∧ 0 ≤ z ∧ z ≤ m ∧ z.toNat = n := by
  unfold asNat at h
  split at h
  · obtain rfl := hx.inv_v
    split at h
    · rename_i hc
      injection h with h
      exact ⟨_, _, rfl, hc.1, hc.2, h⟩
    · cases h
  · cases h

theorem asNat_le {x : AV} {m n : Nat} (h : asNat x m = some n) : n ≤ m := by
  unfold asNat at h
  split at h
  · split at h
    · injection h with h; omega
    · cases h
  · cases h

/-- An operand that may lack. -/
def OptRel (G : Ghost) (k nl : Nat) : Option AV → Option Value → Prop
  | none, none => True
  | some x, some y => Rel G k nl x y
  | _, _ => False

theorem bounds_run {isSlice : Bool} {len cap : Nat} {lo hi : Option AV} {lo' hi' : Option Value} {h l : Nat} (hlo : OptRel G k nl lo lo') (hhi : OptRel G k nl hi hi')
    (eh : hiOf hi false cap len = some h) (el : loOf lo h = some l) :
    (Instr.sliceBounds isSlice len cap lo' hi' none).run P w = .ok (l, h, cap) w := by
  cases hi with
  | none =>
    cases hi' with
    | some => exact hhi.elim
    | none =>
      simp only [hiOf, Bool.false_eq_true, if_false, Option.some.injEq] at eh
      subst eh
      cases lo with
      | none =>
        cases lo' with
        | some => exact hlo.elim
        | none =>
          simp only [loOf, Option.some.injEq] at el
          subst el
          simp [Instr.sliceBounds]
      | some x =>
        cases lo' with
        | none => exact hlo.elim
        | some y =>
          obtain ⟨kd, z, rfl, z0, z1, rfl⟩ := asNat_rel hlo el
          simp [Instr.sliceBounds, run_sliceBound w kd z _ _ z0 z1]
  | some q =>
    cases hi' with
    | none => exact hhi.elim
    | some p =>
      obtain ⟨kd, z, rfl, z0, z1, rfl⟩ := asNat_rel hhi eh
      cases lo with
      | none =>
        cases lo' with
        | some => exact hlo.elim
        | none =>
          simp only [loOf, Option.some.injEq] at el
          subst el
          simp [Instr.sliceBounds, run_sliceBound w kd z _ _ z0 z1]
      | some x =>
        cases lo' with
        | none => exact hlo.elim
        | some y =>
          obtain ⟨kd', z', rfl, z0', z1', rfl⟩ := asNat_rel hlo el
          simp [Instr.sliceBounds, run_sliceBound w kd z _ _ z0 z1, run_sliceBound w kd' z' _ _ z0' z1']

theorem bounds_run3 {isSlice : Bool} {len cap : Nat} {lo : Option AV} {hi mx : AV} {lo' : Option Value} {hi' mx' : Value} {m h l : Nat} (hlo : OptRel G k nl lo lo') (hhi : Rel G k nl hi hi') (hmx : Rel G k nl mx mx') (em : asNat mx cap = some m)
    (eh : asNat hi m = some h) (el : loOf lo h = some l) :
    (Instr.sliceBounds isSlice len cap lo' (some hi') (some mx')).run P w = .ok (l, h, m) w := by
  obtain ⟨km, zm, rfl, zm0, zm1, rfl⟩ := asNat_rel hmx em
  obtain ⟨kd, z, rfl, z0, z1, rfl⟩ := asNat_rel hhi eh
  cases lo with
  | none =>
    cases lo' with
    | some => exact hlo.elim
    | none =>
      simp only [loOf, Option.some.injEq] at el
      subst el
      simp [Instr.sliceBounds, run_sliceBound w km zm _ _ zm0 zm1, run_sliceBound w kd z _ _ z0 z1]
  | some x =>
    cases lo' with
    | none => exact hlo.elim
    | some y =>
      obtain ⟨kd', z', rfl, z0', z1', rfl⟩ := asNat_rel hlo el
      simp [Instr.sliceBounds, run_sliceBound w km zm _ _ zm0 zm1, run_sliceBound w kd z _ _ z0 z1, run_sliceBound w kd' z' _ _ z0' z1']

/-- A part of a slice that is only read. -/
theorem SliceC.cut {I : IMap} {es : Nat} {xs : List (List AV)} {a : Addr} {cap l h : Nat} (hx : SliceC I es xs a cap) (hl : l ≤ h) (hh : h ≤ xs.length) (m : Nat) (hm : h ≤ m) (hmc : m ≤ cap) (q : Addr) (hq : q = if m = l then a else a.add (l * es)) :
    SliceC I es ((xs.take h).drop l) q (m - l) := by
  cases hx with
  | empty =>
    have h0 : h = 0 := by simpa using hh
    have l0 : l = 0 := by omega
    have m0 : m = 0 := by omega
    subst h0 l0 m0
    exact .empty (.inl rfl)
  | @slice _ _ _ blk off _ f ho hc hes hcell hI hR =>
    have hlen : ((xs.take h).drop l).length = h - l := by simp; omega
    have hget : ∀ i (hi : i < ((xs.take h).drop l).length), ((xs.take h).drop l)[i] = xs[l + i]'(by omega) := fun i hi => by simp
    have hmem : ∀ r, r ∈ (xs.take h).drop l → r ∈ xs := fun r hr => List.mem_of_mem_take (List.mem_of_mem_drop hr)
    have e2 : q = ⟨blk, (if m = l then off else off + l * es), none⟩ := by
      rw [hq]
      split
      · rfl
      · rw [addr_add]
    rw [e2]
    refine RelC.slice (fun i j => f (l + i) j) (.inl rfl) (by omega) (fun r hr => hes r (hmem r hr)) (fun r hr => hcell r (hmem r hr)) (fun i hi j hj => ?_) (fun i hi j hj => ?_)
    · have hne : m ≠ l := by omega
      have hi' : l + i < xs.length := by omega
      have hj' : j < (xs[l + i]).length := by simp only [hget i hi] at hj; exact hj
      rw [if_neg hne]
      have := hI (l + i) hi' j hj'
      rw [Nat.add_mul] at this
      rw [← this]
      congr 1
      omega
    · have hi' : l + i < xs.length := by omega
      have hj' : j < (xs[l + i]).length := by simp only [hget i hi] at hj; exact hj
      have := hR (l + i) hi' j hj'
      simp only [hget i hi]
      exact this

end
end Go.Ax

/-
  The other operations without a call: slices, elements, structs and conversions.
-/
namespace Go.Ax
open Go.RowKit

section
variable {P : Program} {B0 : Nat} {w0 : World} {G : Ghost} {k nl : Nat} {w : World} {s : Sig}

theorem asNat_mono {x : AV} {m m' n : Nat} (h : asNat x m = some n) (hm : m ≤ m') : asNat x m' = some n := by
  unfold asNat at h ⊢
  split at h
  · split at h
    · rename_i hc
      rw [if_pos ⟨hc.1, by omega⟩]
      exact h
    · cases h
  · cases h

theorem chunks_spec (es : Nat) : ∀ (n : Nat) (cs : List AV), n * es ≤ cs.length → (chunks es n cs).length = n ∧ (∀ r, r ∈ chunks es n cs → r.length = es) ∧ (∀ r, r ∈ chunks es n cs → ∀ c, c ∈ r → c ∈ cs) ∧
    ∀ i (hi : i < (chunks es n cs).length) j (hj : j < (chunks es n cs)[i].length), ∃ h : i * es + j < cs.length, (chunks es n cs)[i][j] = cs[i * es + j]
  | 0, cs, _ => by simp [chunks]
  | n + 1, cs, h => by
    have hs : (n + 1) * es = n * es + es := by rw [Nat.add_mul, Nat.one_mul]
    obtain ⟨a1, a2, a3, a4⟩ := chunks_spec es n (cs.drop es) (by simp; omega)
    refine ⟨by simp [chunks, a1], fun r hr => ?_, fun r hr c hc => ?_, fun i hi j hj => ?_⟩
    · simp only [chunks, List.mem_cons] at hr
      rcases hr with rfl | hr
      · simp; omega
      · exact a2 r hr
    · simp only [chunks, List.mem_cons] at hr
      rcases hr with rfl | hr
      · exact List.mem_of_mem_take hc
      · exact List.mem_of_mem_drop (a3 r hr c hc)
    · cases i with
      | zero =>
        simp only [chunks, List.getElem_cons_zero, List.length_take] at hj ⊢
        exact ⟨by omega, by simp⟩
      | succ i =>
        simp only [chunks, List.getElem_cons_succ, List.length_cons] at hi hj ⊢
        obtain ⟨h1, h2⟩ := a4 i (by omega) j hj
        simp only [List.length_drop] at h1
        have e : (i + 1) * es + j = es + (i * es + j) := by rw [Nat.add_mul, Nat.one_mul]; omega
        refine ⟨by omega, ?_⟩
        rw [h2, List.getElem_drop]
        simp only [e]

theorem row_slice {I : IMap} {cs : List AV} {es n cap blk o0 off : Nat} {f : Nat → Value} (hcell : ∀ c, c ∈ cs → c.isCell = true) (hI : ∀ i, i < cs.length → I blk (o0 + i) = some (f i)) (hR : ∀ i (hi : i < cs.length), RelC I cs[i] (f i))
    (hle : off + n * es ≤ cs.length) (hc : n ≤ cap) : SliceC I es (chunks es n (cs.drop off)) ⟨blk, o0 + off, none⟩ cap := by
  obtain ⟨a1, a2, a3, a4⟩ := chunks_spec es n (cs.drop off) (by simp; omega)
  have : SliceC I es (chunks es n (cs.drop off)) ⟨blk, o0 + off, none⟩ cap := by
    refine RelC.slice (fun i j => f (off + (i * es + j))) (.inl rfl) (by omega) a2 (fun r hr c hc => hcell c (List.mem_of_mem_drop (a3 r hr c hc))) (fun i hi j hj => ?_) (fun i hi j hj => ?_)
    · obtain ⟨h1, _⟩ := a4 i hi j hj
      simp only [List.length_drop] at h1
      have := hI (off + (i * es + j)) (by omega)
      rw [← this]
      congr 1
      omega
    · obtain ⟨h1, h2⟩ := a4 i hi j hj
      rw [h2, List.getElem_drop]
      exact hR _ _
  exact this

theorem toFull {I : IMap} {es : Nat} {xs : List (List AV)} {a : Addr} {n : Nat} (hn : xs.length = n) (h : RelC I (.slice .any es xs) (.slice (some a) n n)) : RelC I (.slice .full es xs) (.slice (some a) n n) := by
  subst hn
  generalize hN : xs.length = N at h
  cases h with
  | slice f ho hc hes hcell hI hR => exact .slice f (.inr ⟨rfl, rfl⟩) hc hes hcell hI hR
  | empty => exact .empty (.inr rfl)

/-- A part of a string, of a slice, of an array behind a pointer. -/
def SlKindOk (P : Program) (t : TypeId) : SlKind → Prop
  | .str => P.underlying t = some .string
  | .sl es => ∃ e, P.underlying t = some (.slice e) ∧ sizeP P e = some es
  | .arr n es => ∃ e, P.underlying t = some (.array n e) ∧ sizeP P e = some es

theorem loOf_le {lo : Option AV} {h l : Nat} (e : loOf lo h = some l) : l ≤ h := by
  cases lo with
  | none => simp only [loOf, Option.some.injEq] at e; omega
  | some y => exact asNat_le e

theorem mxOf_le {mx : Option AV} {cap m : Nat} (e : mxOf mx cap = some m) : m ≤ cap := by
  cases mx with
  | none => simp only [mxOf, Option.some.injEq] at e; omega
  | some y => exact asNat_le e

/-- The bounds, and the cap that the model takes where a capacity is not known: len ≤ the real one. -/
theorem bounds_all {isSlice : Bool} {len cap cap' : Nat} {lo hi mx : Option AV} {lo' hi' mx' : Option Value} {m h l : Nat} (hlo : OptRel G k nl lo lo') (hhi : OptRel G k nl hi hi') (hmx : OptRel G k nl mx mx')
    (hcap : len ≤ cap) (hcap' : cap ≤ cap') (em : mxOf mx cap = some m) (eh : hiOf hi mx.isSome m len = some h) (el : loOf lo h = some l) :
    l ≤ h ∧ h ≤ m ∧ m ≤ cap ∧ (Instr.sliceBounds isSlice len cap' lo' hi' mx').run P w = .ok (l, h, if mx.isSome then m else cap') w := by
  have hm := mxOf_le em
  have hl := loOf_le el
  have hh : h ≤ m := by
    cases hi with
    | none =>
      cases mx with
      | none => simp only [hiOf, mxOf, Option.isSome_none, Bool.false_eq_true, if_false, Option.some.injEq] at eh em; omega
      | some => simp [hiOf] at eh
    | some y => exact asNat_le eh
  refine ⟨hl, hh, hm, ?_⟩
  cases mx with
  | none =>
    cases mx' with
    | some => exact hmx.elim
    | none =>
      simp only [mxOf, Option.some.injEq] at em
      subst em
      simp only [Option.isSome_none, Bool.false_eq_true, if_false]
      refine bounds_run hlo hhi ?_ el
      cases hi with
      | none => exact eh
      | some y => exact asNat_mono eh hcap'
  | some mv =>
    cases mx' with
    | none => exact hmx.elim
    | some mv' =>
      cases hi with
      | none => simp [hiOf] at eh
      | some hv =>
        cases hi' with
        | none => exact hhi.elim
        | some hv' =>
          simp only [Option.isSome_some, if_true]
          exact bounds_run3 hlo hhi hmx (asNat_mono em hcap') eh el

theorem sliceStr_sound {t : TypeId} {q : ByteArray} {x : Value} {v : AV} {lo hi mx : Option AV} {lo' hi' mx' : Option Value} (ht : P.underlying t = some .string)
    (hx : Rel G k nl (.v (.string q)) x) (hlo : OptRel G k nl lo lo') (hhi : OptRel G k nl hi hi') (hmx : OptRel G k nl mx mx') (h : sliceOp .str (.v (.string q)) lo hi mx = some v) :
    ∃ z, (Instr.sliceAt t x lo' hi' mx').run P w = .ok z w ∧ Rel G k nl v z := by
  obtain rfl := hx.inv_v
  simp only [sliceOp] at h
  split at h
  · cases h
  rename_i hs
  obtain ⟨hh, eh, h⟩ := Option.bind_eq_some_iff.1 h
  obtain ⟨l, el, rfl⟩ := Option.map_eq_some_iff.1 h
  have hn : mx = none := by cases mx with | none => rfl | some => simp at hs
  subst hn
  obtain ⟨h1, h2, h3, hb⟩ := bounds_all (P := P) (w := w) (isSlice := false) (len := q.size) (cap := q.size) (cap' := q.size) hlo hhi hmx (Nat.le_refl _) (Nat.le_refl _) rfl eh el
  have hn' : mx' = none := by cases mx' with | none => rfl | some => exact hmx.elim
  subst hn'
  refine ⟨_, ?_, .val _ rfl⟩
  simp only [Instr.sliceAt, Sem.run_bind, run_underlying ht, Result.andThen_ok, Instr.slice, Option.isSome_none, Bool.false_eq_true, if_false, Sem.run_pure]
  simp [hb]

theorem addr_part (p : Addr) (hs : p.spot = none) (l es m : Nat) : (if m = l then p else p.add (l * es)) = ⟨p.block, (if m = l then p.off else p.off + l * es), none⟩ := by
  rw [addr_eta hs]
  split
  · rfl
  · rw [addr_add]

theorem sliceSl_sound {t e : TypeId} {e0 : Nat} {o : Own} {es : Nat} {xs : List (List AV)} {x : Value} {v : AV} {lo hi mx : Option AV} {lo' hi' mx' : Option Value} (ht : P.underlying t = some (.slice e)) (hsz : sizeP P e = some e0)
    (hx : Rel G k nl (.slice o es xs) x) (hlo : OptRel G k nl lo lo') (hhi : OptRel G k nl hi hi') (hmx : OptRel G k nl mx mx') (h : sliceOp (.sl e0) (.slice o es xs) lo hi mx = some v) :
    ∃ z, (Instr.sliceAt t x lo' hi' mx').run P w = .ok z w ∧ Rel G k nl v z := by
  simp only [sliceOp] at h
  split at h
  case isFalse => cases h
  rename_i hee
  obtain ⟨m, em, h⟩ := Option.bind_eq_some_iff.1 h
  obtain ⟨hh, eh, h⟩ := Option.bind_eq_some_iff.1 h
  obtain ⟨l, el, rfl⟩ := Option.map_eq_some_iff.1 h
  rcases hx.inv_slice with ⟨rfl, rfl, rfl⟩ | ⟨hne, p, cap, rfl, hsp, hcap, hxc, hfull⟩
  · obtain ⟨h1, h2, h3, hb⟩ := bounds_all (P := P) (w := w) (isSlice := true) (len := 0) (cap := 0) (cap' := 0) hlo hhi hmx (Nat.le_refl _) (Nat.le_refl _) em eh el
    have h0 : hh = 0 := by simp at h3; omega
    have l0 : l = 0 := by omega
    have m0 : m = 0 := by simp at h3; omega
    subst h0 l0 m0
    have hv : Rel G k nl (.slice .nilS es []) (.slice none 0 0) := .cl .nilS
    have hown : (.slice (slOwn .nilS mx.isSome (0 == 0 && 0 == ([] : List (List AV)).length) (0 == 0 && decide (0 < 0))) es (([].take 0).drop 0) : AV) = .slice .nilS es [] := by
      cases mx <;> simp [slOwn, sliceOwn, Own.isNil]
    refine ⟨.slice none 0 0, ?_, by rw [hown]; exact hv⟩
    simp only [Instr.sliceAt, Sem.run_bind, run_underlying ht, Result.andThen_ok, Instr.slice, hb]
    cases mx <;> simp [sizeOf_run hsz]
  · have heq : es = e0 := by
      rcases hee with h0 | h0
      · cases o <;> simp_all [Own.isNil]
      · exact h0
    subst heq
    obtain ⟨h1, h2, h3, hb⟩ := bounds_all (P := P) (w := w) (isSlice := true) (len := xs.length) (cap := xs.length) (cap' := cap) hlo hhi hmx (Nat.le_refl _) hcap em eh el
    have hlen : ((xs.take hh).drop l).length = hh - l := by simp; omega
    refine ⟨.slice (some (if (if mx.isSome then m else cap) = l then p else p.add (l * es))) (hh - l) ((if mx.isSome then m else cap) - l), ?_, ?_⟩
    · simp only [Instr.sliceAt, Sem.run_bind, run_underlying ht, Result.andThen_ok, Instr.slice, hb, sizeOf_run hsz, Option.map_some, Sem.run_pure]
      congr 2
      split <;> split <;> rfl
    · generalize hM : (if mx.isSome then m else cap) = M
      have hMh : hh ≤ M := by rw [← hM]; split <;> omega
      have hcut : RelC G.I (.slice .any es ((xs.take hh).drop l)) (.slice (some (if M = l then p else p.add (l * es))) (hh - l) (M - l)) := by
        have := SliceC.cut hxc h1 (by omega) M hMh (by rw [← hM]; split <;> omega) _ rfl
        unfold SliceC at this
        rwa [hlen] at this
      cases mx with
      | none =>
        simp only [Option.isSome_none, Bool.false_eq_true, if_false] at hM
        subst hM
        simp only [slOwn, Option.isSome_none, Bool.false_eq_true, if_false]
        by_cases hw : (l == 0 && hh == xs.length) = true
        · simp only [Bool.and_eq_true, beq_iff_eq] at hw
          obtain ⟨rfl, rfl⟩ := hw
          have e1 : (xs.take xs.length).drop 0 = xs := by simp
          have e2 : (if cap = 0 then p else p.add (0 * es)) = p := by
            split
            · rfl
            · rw [addr_eta (hsp (by omega)), addr_add]; simp
          rw [e1, e2]
          simp only [Nat.sub_zero]
          cases o with
          | nilS => exact absurd rfl hne
          | any => exact hx
          | full => exact .cl hxc
          | tok d g => simpa [sliceOwn] using hx
        · have ho : sliceOwn o (l == 0 && hh == xs.length) = .any := by
            cases o with
            | nilS => exact absurd rfl hne
            | any => rfl
            | full => rfl
            | tok d g => simp only [sliceOwn]; rw [if_neg hw]
          rw [ho]
          exact .cl hcut
      | some mv =>
        simp only [Option.isSome_some, if_true] at hM
        subst hM
        have hnil : o.isNil = false := by cases o <;> simp_all [Own.isNil]
        simp only [slOwn, Option.isSome_some, if_true, hnil, Bool.false_eq_true, if_false]
        by_cases hw : (hh == m && decide (0 < m)) = true
        · rw [if_pos hw]
          simp only [Bool.and_eq_true, beq_iff_eq] at hw
          obtain ⟨rfl, _⟩ := hw
          exact .cl (toFull hlen hcut)
        · rw [if_neg hw]
          exact .cl hcut

theorem sliceRsl_sound {t e : TypeId} {e0 d b off es n cap : Nat} {x : Value} {v : AV} {lo hi mx : Option AV} {lo' hi' mx' : Option Value} (ht : P.underlying t = some (.slice e)) (hsz : sizeP P e = some e0)
    (hx : Rel G k nl (.rsl d b off es n cap) x) (hlo : OptRel G k nl lo lo') (hhi : OptRel G k nl hi hi') (hmx : OptRel G k nl mx mx') (h : sliceOp (.sl e0) (.rsl d b off es n cap) lo hi mx = some v) :
    ∃ z, (Instr.sliceAt t x lo' hi' mx').run P w = .ok z w ∧ Rel G k nl v z := by
  simp only [sliceOp] at h
  split at h
  case isFalse => cases h
  rename_i hee
  subst hee
  obtain ⟨m, em, h⟩ := Option.bind_eq_some_iff.1 h
  obtain ⟨hh, eh, h⟩ := Option.bind_eq_some_iff.1 h
  obtain ⟨l, el, rfl⟩ := Option.map_eq_some_iff.1 h
  obtain ⟨blk, gr, rfl, hd, hg, hbl, hn⟩ := hx.inv_rsl
  obtain ⟨h1, h2, h3, hb⟩ := bounds_all (P := P) (w := w) (isSlice := true) (len := n) (cap := cap) (cap' := cap) hlo hhi hmx hn (Nat.le_refl _) em eh el
  have hM : (if mx.isSome then m else cap) = m := by
    cases mx with
    | none => simp only [mxOf, Option.some.injEq] at em; simpa using em
    | some => rfl
  rw [hM] at hb
  refine ⟨_, ?_, .rsl gr hd hg hbl (Nat.sub_le_sub_right h2 l)⟩
  simp only [Instr.sliceAt, Sem.run_bind, run_underlying ht, Result.andThen_ok, Instr.slice, hb, sizeOf_run hsz, Option.map_some, Sem.run_pure, addr_add]
  congr 2
  split <;> rfl

theorem sliceArr_sound {t e : TypeId} {N es : Nat} {a v : AV} {x : Value} {lo hi mx : Option AV} {lo' hi' mx' : Option Value} (ht : P.underlying t = some (.array N e)) (hsz : sizeP P e = some es)
    (hx : Rel G k nl a x) (hlo : OptRel G k nl lo lo') (hhi : OptRel G k nl hi hi') (hmx : OptRel G k nl mx mx') (h : sliceOp (.arr N es) a lo hi mx = some v) :
    ∃ z, (Instr.sliceAt t x lo' hi' mx').run P w = .ok z w ∧ Rel G k nl v z := by
  unfold sliceOp at h
  split at h <;> try contradiction
  · rename_i n0 es0 d b off hk
    injection hk with hk1 hk2
    subst hk1 hk2
    split at h
    · cases h
    rename_i hs
    have hn : mx = none := by cases mx with | none => rfl | some => simp at hs
    subst hn
    obtain ⟨hh, eh, h⟩ := Option.bind_eq_some_iff.1 h
    obtain ⟨l, el, rfl⟩ := Option.map_eq_some_iff.1 h
    obtain ⟨blk, gr, rfl, hd, hg, hbl⟩ := hx.inv_ptr
    obtain ⟨h1, h2, h3, hb⟩ := bounds_all (P := P) (w := w) (isSlice := false) (len := N) (cap := N) (cap' := N) hlo hhi hmx (Nat.le_refl _) (Nat.le_refl _) rfl eh el
    refine ⟨_, ?_, .rsl gr hd hg hbl (Nat.sub_le_sub_right h2 l)⟩
    simp only [Instr.sliceAt, Sem.run_bind, run_underlying ht, Result.andThen_ok, Instr.sureAddr, hb, sizeOf_run hsz, Sem.run_pure, addr_add, Option.isSome_none, Bool.false_eq_true, if_false]
    congr 3
    split <;> rfl
  · rename_i n0 es0 cs off hk
    injection hk with hk1 hk2
    subst hk1 hk2
    split at h
    · cases h
    rename_i hs
    have hn : mx = none := by cases mx with | none => rfl | some => simp at hs
    subst hn
    obtain ⟨hh, eh, h⟩ := Option.bind_eq_some_iff.1 h
    obtain ⟨l, el, h⟩ := Option.bind_eq_some_iff.1 h
    split at h
    case isFalse => cases h
    rename_i hle
    injection h with h
    subst h
    obtain ⟨blk, o0, f, rfl, hcell, hI, hR⟩ := hx.inv_eptr
    obtain ⟨h1, h2, h3, hb⟩ := bounds_all (P := P) (w := w) (isSlice := false) (len := N) (cap := N) (cap' := N) hlo hhi hmx (Nat.le_refl _) (Nat.le_refl _) rfl eh el
    have hmul : l * es + (hh - l) * es ≤ N * es := by
      rw [← Nat.add_mul]
      exact Nat.mul_le_mul_right _ (by omega)
    have hrow := row_slice (cap := N - l) hcell hI hR (es := es) (n := hh - l) (off := off + l * es) (by omega) (Nat.sub_le_sub_right h2 l)
    have hlen := (chunks_spec es (hh - l) (cs.drop (off + l * es)) (by simp; omega)).1
    refine ⟨.slice (some (if N = l then ⟨blk, o0 + off, none⟩ else ⟨blk, o0 + (off + l * es), none⟩)) (hh - l) (N - l), ?_, ?_⟩
    · simp only [Instr.sliceAt, Sem.run_bind, run_underlying ht, Result.andThen_ok, Instr.sureAddr, hb, sizeOf_run hsz, Sem.run_pure, addr_add, Option.isSome_none, Bool.false_eq_true, if_false]
      congr 3
      split
      · rfl
      · congr 1; omega
    · by_cases hN : N = l
      · subst hN
        have h0 : hh = N := by omega
        subst h0
        simp only [Nat.sub_self, chunks, if_true]
        exact .cl (.slice (xs := []) (fun _ _ => Go.undef) (.inl rfl) (Nat.le_refl _) (fun r hr => by cases hr) (fun r hr => by cases hr) (fun i hi => absurd hi (Nat.not_lt_zero _)) (fun i hi => absurd hi (Nat.not_lt_zero _)))
      · rw [if_neg hN]
        have := Rel.cl (G := G) (k := k) (nl := nl) hrow
        unfold SliceC at hrow
        rw [hlen] at hrow
        exact .cl hrow

theorem sliceOp_sound {t : TypeId} {kd : SlKind} {a v : AV} {x : Value} {lo hi mx : Option AV} {lo' hi' mx' : Option Value} (ht : SlKindOk P t kd)
    (hx : Rel G k nl a x) (hlo : OptRel G k nl lo lo') (hhi : OptRel G k nl hi hi') (hmx : OptRel G k nl mx mx') (h : sliceOp kd a lo hi mx = some v) :
    ∃ z, (Instr.sliceAt t x lo' hi' mx').run P w = .ok z w ∧ Rel G k nl v z := by
  cases kd with
  | str =>
    cases a with
    | v q =>
      cases q with
      | string q => exact sliceStr_sound ht hx hlo hhi hmx h
      | _ => simp [sliceOp] at h
    | _ => simp [sliceOp] at h
  | sl e0 =>
    obtain ⟨e, ht, hs⟩ := ht
    cases a with
    | slice o es xs => exact sliceSl_sound ht hs hx hlo hhi hmx h
    | rsl d b off es n cap => exact sliceRsl_sound ht hs hx hlo hhi hmx h
    | _ => simp [sliceOp] at h
  | arr n es =>
    obtain ⟨e, ht, hs⟩ := ht
    exact sliceArr_sound ht hs hx hlo hhi hmx h

end
end Go.Ax

/-
  Elements, fields, built values and conversions.
-/
namespace Go.Ax
open Go.RowKit

section
variable {P : Program} {B0 : Nat} {w0 : World} {G : Ghost} {k nl : Nat} {w : World} {s : Sig}

theorem idx_rel {x : AV} {y : Value} {n j : Nat} (hx : Rel G k nl x y) (h : idx x n = some j) : ∃ kd z, y = .int kd z ∧ 0 ≤ z ∧ z < n ∧ z.toNat = j := by
  unfold idx at h
  split at h
  · obtain rfl := hx.inv_v
    split at h
    · rename_i hc
      injection h with h
      exact ⟨_, _, rfl, hc.1, hc.2, h⟩
    · cases h
  · cases h

theorem indexSl_sound {t e : TypeId} {es : Nat} {a i v : AV} {x y : Value} (ht : P.underlying t = some (.slice e)) (hs : sizeP P e = some es) (hx : Rel G k nl a x) (hy : Rel G k nl i y)
    (h : indexAddrOp none es a i = some v) : ∃ z, (Instr.indexAt t x y).run P w = .ok z w ∧ Rel G k nl v z := by
  unfold indexAddrOp at h
  split at h <;> try contradiction
  · rename_i o e1 xs _
    split at h
    case isFalse => cases h
    rename_i he
    subst he
    obtain ⟨j, hj, h⟩ := Option.bind_eq_some_iff.1 h
    obtain ⟨r, hr, rfl⟩ := Option.map_eq_some_iff.1 h
    obtain ⟨kd, z, rfl, z0, z1, rfl⟩ := idx_rel hy hj
    obtain ⟨hjl, hr⟩ := List.getElem?_eq_some_iff.1 hr
    rcases hx.inv_slice with ⟨_, rfl, _⟩ | ⟨_, p, cap, rfl, hsp, hcap, hxc, _⟩
    · simp at hjl
    · refine ⟨.pointer (some (p.add (z.toNat * e1))), ?_, ?_⟩
      · simp [Instr.indexAt, run_underlying ht, asIntOf, z0, z1, sizeOf_run hs]
      · cases hxc with
        | empty => exact absurd hjl (Nat.not_lt_zero _)
        | @slice _ _ _ blk off _ f ho hc hes hcell hI hR =>
          rw [addr_add]
          subst hr
          refine .cl (.eptr (off := 0) (o0 := off + z.toNat * e1) (fun q => f z.toNat q) (fun c hc => hcell _ (List.getElem_mem hjl) c hc) (fun q hq => hI _ hjl q hq) (fun q hq => hR _ hjl q hq))
  · rename_i d b off e1 n cap _
    split at h
    case isFalse => cases h
    rename_i he
    subst he
    obtain ⟨j, hj, rfl⟩ := Option.map_eq_some_iff.1 h
    obtain ⟨kd, z, rfl, z0, z1, rfl⟩ := idx_rel hy hj
    obtain ⟨blk, gr, rfl, hd, hg, hbl, hn⟩ := hx.inv_rsl
    refine ⟨.pointer (some ⟨blk, off + z.toNat * e1, none⟩), ?_, .ptr gr hd hg hbl⟩
    simp [Instr.indexAt, run_underlying ht, asIntOf, z0, z1, sizeOf_run hs, addr_add]

theorem indexArr_sound {t e : TypeId} {N es : Nat} {a i v : AV} {x y : Value} (ht : P.underlying t = some (.array N e)) (hs : sizeP P e = some es) (hx : Rel G k nl a x) (hy : Rel G k nl i y)
    (h : indexAddrOp (some N) es a i = some v) : ∃ z, (Instr.indexAt t x y).run P w = .ok z w ∧ Rel G k nl v z := by
  unfold indexAddrOp at h
  split at h <;> try contradiction
  · rename_i n0 d b off hk
    injection hk with hk
    subst hk
    obtain ⟨j, hj, rfl⟩ := Option.map_eq_some_iff.1 h
    obtain ⟨kd, z, rfl, z0, z1, rfl⟩ := idx_rel hy hj
    obtain ⟨blk, gr, rfl, hd, hg, hbl⟩ := hx.inv_ptr
    refine ⟨.pointer (some ⟨blk, off + z.toNat * es, none⟩), ?_, .ptr gr hd hg hbl⟩
    simp [Instr.indexAt, run_underlying ht, asIntOf, z0, z1, sizeOf_run hs, addr_add, Instr.sureAddr]
  · rename_i n0 cs off hk
    injection hk with hk
    subst hk
    obtain ⟨j, hj, rfl⟩ := Option.map_eq_some_iff.1 h
    obtain ⟨kd, z, rfl, z0, z1, rfl⟩ := idx_rel hy hj
    obtain ⟨blk, o0, f, rfl, hcell, hI, hR⟩ := hx.inv_eptr
    refine ⟨.pointer (some ⟨blk, o0 + (off + z.toNat * es), none⟩), ?_, .cl (.eptr f hcell hI hR)⟩
    simp [Instr.indexAt, run_underlying ht, asIntOf, z0, z1, sizeOf_run hs, addr_add, Instr.sureAddr, Nat.add_assoc]

theorem fieldAddr_sound {t : TypeId} {fs : Array Field} {f : Field} {i n : Nat} {a v : AV} {x : Value} (ht : P.underlying t = some (.struct fs)) (hf : fs[i]? = some f) (hn : sizeP P f.type = some n) (h0 : 0 < n)
    (hx : Rel G k nl a x) (h : ptrAdd f.offset a = some v) : ∃ z, (Instr.fieldAt t x i).run P w = .ok z w ∧ Rel G k nl v z := by
  have hne : n ≠ 0 := by omega
  unfold ptrAdd at h
  split at h <;> try contradiction
  · rename_i d b off
    injection h with h
    subst h
    obtain ⟨blk, gr, rfl, hd, hg, hbl⟩ := hx.inv_ptr
    refine ⟨_, ?_, .ptr gr hd hg hbl⟩
    simp [Instr.fieldAt, run_underlying ht, hf, Instr.sureAddr, fieldPlace, sizeOf_run hn, hne, addr_add]
  · rename_i cs off
    injection h with h
    subst h
    obtain ⟨blk, o0, g, rfl, hcell, hI, hR⟩ := hx.inv_eptr
    refine ⟨.pointer (some ⟨blk, o0 + (off + f.offset), none⟩), ?_, .cl (.eptr g hcell hI hR)⟩
    simp [Instr.fieldAt, run_underlying ht, hf, Instr.sureAddr, fieldPlace, sizeOf_run hn, hne, addr_add, Nat.add_assoc]

theorem indexStr_sound {t : TypeId} {a i v : AV} {x y : Value} (ht : P.underlying t = some .string) (hx : Rel G k nl a x) (hy : Rel G k nl i y)
    (h : indexStrOp a i = some v) : ∃ z, (Instr.index t x y).run P w = .ok z w ∧ Rel G k nl v z := by
  unfold indexStrOp at h
  split at h
  · rename_i q
    obtain rfl := hx.inv_v
    obtain ⟨j, hj, h⟩ := Option.bind_eq_some_iff.1 h
    obtain ⟨b, hb, rfl⟩ := Option.map_eq_some_iff.1 h
    obtain ⟨kd, z, rfl, z0, z1, rfl⟩ := idx_rel hy hj
    refine ⟨_, ?_, .val _ rfl⟩
    simp only [Instr.index, asIntOf, Sem.run_bind, run_underlying ht, Result.andThen_ok, Sem.run_pure, if_pos z0, hb]
  · cases h

theorem index_sound {t e : TypeId} {N es : Nat} {g : Bool} {a i v : AV} {x y : Value} (ht : P.underlying t = some (.array N e)) (hg : isAggP P e = some g) (hn : sizeP P e = some es) (hx : Rel G k nl a x) (hy : Rel G k nl i y)
    (h : indexOp N es g a i = some v) : ∃ z, (Instr.index t x y).run P w = .ok z w ∧ Rel G k nl v z := by
  unfold indexOp at h
  split at h
  · rename_i cs
    obtain ⟨arr, rfl, hl, hcell, hR⟩ := hx.inv_agg
    obtain ⟨j, hj, h⟩ := Option.bind_eq_some_iff.1 h
    obtain ⟨kd, z, rfl, z0, z1, rfl⟩ := idx_rel hy hj
    rcases part_rel (f := fun i => arr.getD i Go.undef) h hcell hR with ⟨rfl, hle, hv⟩ | ⟨rfl, hlt, hv⟩
    · refine ⟨_, ?_, hv⟩
      simp only [Instr.index, asIntOf, Sem.run_bind, run_underlying ht, Result.andThen_ok, Sem.run_pure, Go.part, isAgg_run hg, if_true, sizeOf_run hn]
      rw [if_pos ⟨z0, z1⟩]
      simp only [Sem.run_bind, Result.andThen_ok, sizeOf_run hn, isAgg_run hg, if_true, Sem.run_pure]
      congr 2
      apply Array.ext
      · simp; omega
      · intro j h1 h2
        simp at h1 h2 ⊢
        have : z.toNat * es + j < arr.size := by omega
        simp [Array.getD, this]
    · refine ⟨_, ?_, hv⟩
      have : z.toNat * es < arr.size := by omega
      simp only [Instr.index, asIntOf, Sem.run_bind, run_underlying ht, Result.andThen_ok, Sem.run_pure, Go.part, sizeOf_run hn]
      rw [if_pos ⟨z0, z1⟩]
      simp only [Sem.run_bind, Result.andThen_ok, sizeOf_run hn, isAgg_run hg, Bool.false_eq_true, if_false, Sem.run_pure]
      simp [Array.getD, this]
  · cases h

/-! ### Built values -/

theorem foldl_setA : ∀ (vs : List Value) (n o : Nat) (arr : Array Value), (vs.zipIdx n).foldl (fun (cs : Array Value) (p : Value × Nat) => cs.setIfInBounds (o + p.2) p.1) arr = setA arr (o + n) vs
  | [], _, _, _ => rfl
  | v :: r, n, o, arr => by
    simp only [List.zipIdx_cons, List.foldl_cons, setA]
    rw [foldl_setA r (n + 1) o]
    rfl

theorem foldl_arr (cs : Array Value) (o : Nat) (arr : Array Value) : cs.zipIdx.foldl (fun (c : Array Value) (p : Value × Nat) => c.setIfInBounds (o + p.2) p.1) arr = setA arr o cs.toList := by
  rw [← Array.foldl_toList, Array.toList_zipIdx, foldl_setA, Nat.add_zero]

/-- One part set. -/
theorem fillOne {cs : List AV} {arr : Array Value} {o size : Nat} {x : AV} {v : Value} {cs' : List AV} (hrow : Row2 (Rel G k nl) cs arr) (hcell : ∀ c, c ∈ cs → c.isCell = true) (hx : Rel G k nl x v) (h : fillRow cs o size x = some cs') :
    v.cells.size = size ∧ o + size ≤ arr.size ∧ Row2 (Rel G k nl) cs' (setA arr o v.cells.toList) ∧ ∀ c, c ∈ cs' → c.isCell = true := by
  unfold fillRow at h
  split at h
  · rename_i hc
    obtain ⟨h1, h2, h3⟩ := hc
    injection h with h
    subst h
    have hv := hx.cells h3
    refine ⟨hv.1.trans h1, by rw [hrow.1]; exact h2, Row2.setA (by simpa using hv.1) (fun i hi hj => ?_) o hrow, fun c hc => ?_⟩
    · have := hv.2 i hi
      have he : v.cells.getD i Go.undef = v.cells.toList[i] := by
        have : i < v.cells.size := by simpa using hj
        simp [Array.getD, this]
      rw [← he]
      exact this
    · rcases setCells_mem hc with hc | hc
      · exact hcell c hc
      · exact List.all_eq_true.1 h3 c hc
  · cases h

theorem fill_sound {ρ : Nat → AV} {a : Act} (hR : TmpsRel G k nl ρ a) (place : Nat → Option (Nat × Nat)) : ∀ (parts : List (Nat × Operand)) (ps : List (Nat × Nat × AOpd)) (cs cs' : List AV) (arr : Array Value),
    compParts P place parts = some ps → Row2 (Rel G k nl) cs arr → (∀ c, c ∈ cs → c.isCell = true) → buildCells cs (evalT ρ) ps = some cs' →
    ∃ arr', Instr.fill place arr (parts.map fun p => (p.1, a.eval p.2)) = some arr' ∧ Row2 (Rel G k nl) cs' arr' ∧ ∀ c, c ∈ cs' → c.isCell = true
  | [], ps, cs, cs', arr, hp, hrow, hcell, h => by
    simp only [compParts] at hp
    injection hp with hp
    subst hp
    simp only [buildCells] at h
    injection h with h
    subst h
    exact ⟨arr, rfl, hrow, hcell⟩
  | (i, x) :: r, ps, cs, cs', arr, hp, hrow, hcell, h => by
    simp only [compParts] at hp
    split at hp
    · rename_i off size y s' e1 e2 e3
      injection hp with hp
      subst hp
      simp only [buildCells] at h
      split at h
      · rename_i cs1 hf
        have hx := opd_rel e2 hR
        obtain ⟨g1, g2, g3, g4⟩ := fillOne hrow hcell hx hf
        obtain ⟨arr', k1, k2, k3⟩ := fill_sound hR place r s' cs1 cs' _ e3 g3 g4 h
        refine ⟨arr', ?_, k2, k3⟩
        simp only [List.map_cons, Instr.fill, e1]
        rw [if_neg (by simp only [Bool.or_eq_true, bne_iff_ne, decide_eq_true_eq]; omega), foldl_arr]
        exact k1
      · cases h
    · cases hp

theorem zeroP_run {t : TypeId} {zs : List AV} (h : zeroP P t = some zs) : ∃ z, (P.info? t).bind (·.zero) = some z ∧ mapO ofCell z.cells.toList = some zs := by
  unfold zeroP at h
  obtain ⟨z, h1, h2⟩ := Option.bind_eq_some_iff.1 h
  exact ⟨z, h1, h2⟩

theorem places_run (w : World) : ∀ (fs : List Field), (∀ f, f ∈ fs → (sizeP P f.type).isSome = true) →
    (fs.mapM fun f => Functor.map (Prod.mk f.offset) (sizeOf f.type)).run P w = .ok (fs.map fun f => (f.offset, (sizeP P f.type).getD 0)) w
  | [], _ => by simp
  | f :: fs, h => by
    obtain ⟨n, hn⟩ := Option.isSome_iff_exists.1 (h f (by simp))
    simp [List.mapM_cons, sizeOf_run hn, places_run w fs (fun g hg => h g (by simp [hg])), hn]

theorem buildStruct_sound {t : TypeId} {zs cs : List AV} {fs : Array Field} {parts : Array (Nat × Operand)} {ps : List (Nat × Nat × AOpd)} {ρ : Nat → AV} {a : Act} (hR : TmpsRel G k nl ρ a) (hz : zeroP P t = some zs)
    (ht : P.underlying t = some (.struct fs)) (hf : fs.toList.all (fun f => (sizeP P f.type).isSome) = true)
    (hp : compParts P (fun i => match fs[i]? with
        | some f => (sizeP P f.type).map fun s => (f.offset, s)
        | none => none) parts.toList = some ps) (h : buildCells zs (evalT ρ) ps = some cs) :
    ∃ z, (Instr.build t (parts.map fun (i, x) => (i, a.eval x))).run P w = .ok z w ∧ Rel G k nl (.agg cs) z := by
  obtain ⟨z, h1, h2⟩ := zeroP_run hz
  obtain ⟨c1, c2, c3⟩ := cells_rel (I := G.I) h2
  obtain ⟨arr', k1, k2, k3⟩ := fill_sound hR _ parts.toList ps zs cs z.cells hp ⟨c1, fun i hi => .cl (c3 i hi)⟩ c2 h
  refine ⟨.agg arr', ?_, .agg k2.1 k3 k2.2⟩
  have hall : ∀ f, f ∈ fs.toList → (sizeP P f.type).isSome = true := List.all_eq_true.1 hf
  have hpl : (fun x : Nat => (fs.toList.map fun f : Field => (f.offset, (sizeP P f.type).getD 0)).toArray[x]?) = (fun i => match fs[i]? with
        | some f => (sizeP P f.type).map fun s => (f.offset, s)
        | none => none) := by
    funext i
    by_cases hi : i < fs.size
    · obtain ⟨n, hn⟩ := Option.isSome_iff_exists.1 (hall fs[i] (by simp))
      simp [hi, hn]
    · simp [hi]
  have hm : (parts.map fun (i, x) => (i, a.eval x)).toList = parts.toList.map fun p => (p.1, a.eval p.2) := by simp
  simp only [Instr.build, Sem.run_bind, zeroValue_run h1, Result.andThen_ok, run_underlying ht, Sem.run_pure, Array.mapM_eq_mapM_toList, Sem.run_map]
  have hpr := places_run w fs.toList hall
  have hpr' : (fs.toList.mapM fun f => (do pure (f.offset, ← sizeOf f.type) : Sem (Nat × Nat))).run P w = .ok (fs.toList.map fun f : Field => (f.offset, (sizeP P f.type).getD 0)) w := by
    rw [← hpr]
    rfl
  simp only [hpr', Sem.run_bind, Sem.run_map, Result.andThen_ok, hm, hpl, k1, Sem.run_pure]

theorem buildArr_sound {t e : TypeId} {N es : Nat} {zs cs : List AV} {parts : Array (Nat × Operand)} {ps : List (Nat × Nat × AOpd)} {ρ : Nat → AV} {a : Act} (hR : TmpsRel G k nl ρ a) (hz : zeroP P t = some zs)
    (ht : P.underlying t = some (.array N e)) (hs : sizeP P e = some es)
    (hp : compParts P (fun i => some (i * es, es)) parts.toList = some ps) (h : buildCells zs (evalT ρ) ps = some cs) :
    ∃ z, (Instr.build t (parts.map fun (i, x) => (i, a.eval x))).run P w = .ok z w ∧ Rel G k nl (.agg cs) z := by
  obtain ⟨z, h1, h2⟩ := zeroP_run hz
  obtain ⟨c1, c2, c3⟩ := cells_rel (I := G.I) h2
  obtain ⟨arr', k1, k2, k3⟩ := fill_sound hR _ parts.toList ps zs cs z.cells hp ⟨c1, fun i hi => .cl (c3 i hi)⟩ c2 h
  refine ⟨.agg arr', ?_, .agg k2.1 k3 k2.2⟩
  have hm : (parts.map fun (i, x) => (i, a.eval x)).toList = parts.toList.map fun p => (p.1, a.eval p.2) := by simp
  simp only [Instr.build, Sem.run_bind, zeroValue_run h1, Result.andThen_ok, run_underlying ht, Sem.run_pure, sizeOf_run hs, hm, k1]

end
end Go.Ax

/-
  Slices built or made, conversions, the least and the greatest.
-/
namespace Go.Ax
open Go.RowKit

section
variable {P : Program} {B0 : Nat} {w0 : World} {G : Ghost} {k nl : Nat} {w : World} {s : Sig}

theorem byte_getD {q : Array UInt8} {c : Nat} (h : c < q.size) : q.getD c 0 = q[c] := by
  unfold Array.getD
  rw [dif_pos h]
  rfl

theorem close_cell {x z : AV} (h : x.close = some z) : x.isCell = true ∧ z.isCell = true := by
  have hx : x.isCell = true := by
    unfold AV.close at h
    split at h
    · rfl
    · split at h
      · rename_i hc
        cases x with
        | v q => cases q <;> first | rfl | (simp [AV.isClosed, AV.isClosed1] at hc)
        | agg => simp [AV.isClosed, AV.isClosed1] at hc
        | tuple => simp [AV.isClosed, AV.isClosed1] at hc
        | _ => rfl
      · cases h
  exact ⟨hx, close_isCell h hx⟩

theorem setA_getD {q : Nat} : ∀ (vs : List Value) (o : Nat) (arr : Array Value), o + vs.length ≤ arr.size → (setA arr o vs).getD q Go.undef = if o ≤ q ∧ q < o + vs.length then vs.getD (q - o) Go.undef else arr.getD q Go.undef
  | [], o, arr, _ => by
    rw [if_neg (by simp)]
    rfl
  | v :: r, o, arr, h => by
    simp only [List.length_cons] at h
    simp only [setA]
    rw [setA_getD r (o + 1) _ (by simp; omega)]
    simp only [List.length_cons]
    by_cases h1 : o + 1 ≤ q ∧ q < o + 1 + r.length
    · rw [if_pos h1, if_pos (by omega)]
      have : q - o = (q - (o + 1)) + 1 := by omega
      rw [this, List.getD_cons_succ]
    · rw [if_neg h1]
      by_cases h2 : q = o
      · subst h2
        rw [if_pos (by omega), Nat.sub_self]
        have : q < arr.size := by omega
        simp [Array.getD, this]
      · rw [if_neg (by omega)]
        by_cases hq : q < arr.size
        · simp [Array.getD, hq, Ne.symm h2]
        · simp [Array.getD, hq]

/-- Elements in one row. -/
structure Rows (I : IMap) (es : Nat) (rows : List (List AV)) (arr : Array Value) : Prop where
  size : arr.size = rows.length * es
  len : ∀ r, r ∈ rows → r.length = es
  cell : ∀ r, r ∈ rows → ∀ c, c ∈ r → c.isCell = true
  rel : ∀ i (hi : i < rows.length) j (hj : j < rows[i].length), RelC I (rows[i][j]) (arr.getD (i * es + j) Go.undef)

theorem row_lt {i j n es : Nat} (hi : i < n) (hj : j < es) : i * es + j < n * es := by
  calc i * es + j < i * es + es := by omega
    _ = (i + 1) * es := by rw [Nat.add_mul, Nat.one_mul]
    _ ≤ n * es := Nat.mul_le_mul_right _ hi

theorem row_apart {i q j es : Nat} (hj : j < es) (hne : q ≠ i) : ¬ (i * es ≤ q * es + j ∧ q * es + j < i * es + es) := by
  intro ⟨h1, h2⟩
  rcases Nat.lt_or_gt_of_ne hne with h | h
  · have := row_lt (es := es) h hj
    omega
  · have : (i + 1) * es ≤ q * es := Nat.mul_le_mul_right _ h
    rw [Nat.add_mul, Nat.one_mul] at this
    omega

theorem Rows.set {I : IMap} {es : Nat} {rows : List (List AV)} {arr : Array Value} (h : Rows I es rows arr) {i : Nat} (hi : i < rows.length) {cs : List AV} {vs : Array Value} (hl : cs.length = es) (hcell : ∀ c, c ∈ cs → c.isCell = true)
    (hR : Row2 (RelC I) cs vs) : Rows I es (rows.set i cs) (setA arr (i * es) vs.toList) := by
  have hvs : vs.toList.length = es := by simp [hR.1, hl]
  have hle : i * es + es ≤ rows.length * es := by
    have : (i + 1) * es ≤ rows.length * es := Nat.mul_le_mul_right _ hi
    rwa [Nat.add_mul, Nat.one_mul] at this
  refine ⟨by rw [setA_size, List.length_set]; exact h.size, fun r hr => ?_, fun r hr => ?_, fun q hq j hj => ?_⟩
  · rcases List.mem_or_eq_of_mem_set hr with hr | rfl
    · exact h.len r hr
    · exact hl
  · rcases List.mem_or_eq_of_mem_set hr with hr | rfl
    · exact h.cell r hr
    · exact hcell
  · have hq' : q < rows.length := by simpa using hq
    rw [setA_getD _ _ _ (by rw [hvs, h.size]; exact hle), hvs]
    by_cases he : i = q
    · subst he
      simp only [List.getElem_set_self] at hj ⊢
      rw [if_pos (by omega)]
      have e1 : i * es + j - i * es = j := by omega
      rw [e1]
      have := hR.2 j hj
      have e2 : vs.toList.getD j Go.undef = vs.getD j Go.undef := by
        have : j < vs.size := by rw [hR.1]; exact hj
        simp [Array.getD, this]
      rw [e2]
      exact this
    · simp only [List.getElem_set_ne he] at hj ⊢
      have hj' : j < es := by rw [← h.len _ (List.getElem_mem hq')]; exact hj
      rw [if_neg (row_apart hj' (Ne.symm he))]
      exact h.rel q hq' j hj

theorem rows_sound {ρ : Nat → AV} {a : Act} (hR : TmpsRel G k nl ρ a) {es : Nat} : ∀ (parts : List (Nat × Operand)) (ps : List (Nat × AOpd)) (rows rows' : List (List AV)) (arr : Array Value),
    compRows parts = some ps → Rows G.I es rows arr → buildRows rows (evalT ρ) ps = some rows' →
    ∃ arr', Instr.fill (fun i => some (i * es, es)) arr (parts.map fun p => (p.1, a.eval p.2)) = some arr' ∧ Rows G.I es rows' arr' ∧ rows'.length = rows.length
  | [], ps, rows, rows', arr, hp, hrow, h => by
    simp only [compRows] at hp
    injection hp with hp
    subst hp
    simp only [buildRows] at h
    injection h with h
    subst h
    exact ⟨arr, rfl, hrow, rfl⟩
  | (i, x) :: r, ps, rows, rows', arr, hp, hrow, h => by
    simp only [compRows] at hp
    split at hp
    · rename_i y s' e2 e3
      injection hp with hp
      subst hp
      simp only [buildRows] at h
      split at h
      · rename_i row cs f1 f2
        split at h
        · rename_i hlen
          obtain ⟨hi, hrow'⟩ := List.getElem?_eq_some_iff.1 f1
          have hrl : row.length = es := hrow.len _ (hrow' ▸ List.getElem_mem hi)
          have hx := opd_rel e2 hR
          obtain ⟨c1, c2⟩ := closeAll_spec f2
          have hall : (evalT ρ y).cells.all AV.isCell = true := by
            rw [List.all_eq_true]
            intro c hc
            obtain ⟨j, hj, rfl⟩ := List.getElem_of_mem hc
            exact (close_cell (c2 j hj (by omega))).1
          have hcv := hx.cells hall
          have hrel : Row2 (RelC G.I) cs (a.eval x).cells := ⟨by rw [hcv.1, c1], fun j hj => (hcv.2 j (by omega)).close (c2 j (by omega) hj)⟩
          have hcc : ∀ c, c ∈ cs → c.isCell = true := fun c hc => by
            obtain ⟨j, hj, rfl⟩ := List.getElem_of_mem hc
            exact (close_cell (c2 j (by omega) hj)).2
          have hset := hrow.set hi (hlen.trans hrl) hcc hrel
          obtain ⟨arr', k1, k2, k3⟩ := rows_sound hR r s' _ rows' _ e3 hset h
          refine ⟨arr', ?_, k2, by rw [k3]; simp⟩
          simp only [List.map_cons, Instr.fill]
          have hsz : (a.eval x).cells.size = es := by rw [hrel.1, hlen, hrl]
          have hle : i * es + es ≤ rows.length * es := by
            have : (i + 1) * es ≤ rows.length * es := Nat.mul_le_mul_right _ hi
            rwa [Nat.add_mul, Nat.one_mul] at this
          have hs2 := hrow.size
          rw [if_neg (by simp only [Bool.or_eq_true, bne_iff_ne, decide_eq_true_eq, hsz]; omega), foldl_arr]
          exact k1
        · cases h
      · cases h
    · cases hp

/-- A row of elements that nobody writes to. -/
theorem Rows.slice {I : IMap} {es b cap : Nat} {rows : List (List AV)} {arr : Array Value} (h : Rows I es rows arr) (hI : ∀ i, i < arr.size → I b i = arr[i]?) (hcap : rows.length ≤ cap) : SliceC I es rows ⟨b, 0, none⟩ cap := by
  refine SliceC.mk (fun c => arr.getD c Go.undef) hcap h.len h.cell (fun c hc => ?_) h.rel
  rw [Nat.zero_add, hI c (by rw [h.size]; exact hc)]
  have : c < arr.size := by rw [h.size]; exact hc
  simp [Array.getD, this]

theorem Rows.mono {I I' : IMap} {es : Nat} {rows : List (List AV)} {arr : Array Value} (h : Rows I es rows arr) (hI : ∀ b i v, I b i = some v → I' b i = some v) : Rows I' es rows arr :=
  ⟨h.size, h.len, h.cell, fun i hi j hj => (h.rel i hi j hj).mono hI⟩

theorem newI (h : At P B0 w0 G k nl s w) {es n : Nat} {rows : List (List AV)} {arr : Array Value} (ty : TypeId) (hr : Rows G.I es rows arr) (hn : rows.length = n) :
    StepTo P B0 w0 G k nl s s (w.alloc (.cells arr ty)) (.slice .full es rows) (.slice (some ⟨w.heap.size, 0, none⟩) n n) := by
  subst hn
  have hle := G.addI_le w.heap.size arr h.rel.I_new (k + 1) s.loops.length
  have hs := h.rel.allocI arr ty (0, 0)
  refine ⟨_, h.to hs (hle.less (by omega) h.nle) rfl, hle, rfl, .cl (toFull rfl ?_)⟩
  refine (hr.mono hle.I).slice (fun i hi => ?_) (Nat.le_refl _)
  simp [Ghost.addI]

theorem flat_get (zs : List AV) (h : 0 < zs.length) : ∀ (n q : Nat), q < n * zs.length → ((List.replicate n zs).flatten)[q]? = zs[q % zs.length]?
  | 0, q, hq => by simp at hq
  | n + 1, q, hq => by
    simp only [List.replicate_succ, List.flatten_cons]
    by_cases hlt : q < zs.length
    · rw [List.getElem?_append_left hlt, Nat.mod_eq_of_lt hlt]
    · rw [Nat.add_mul, Nat.one_mul] at hq
      rw [List.getElem?_append_right (by omega), flat_get zs h n _ (by omega), ← Nat.mod_eq_sub_mod (by omega)]

theorem flat_len (zs : List AV) (n : Nat) : (List.replicate n zs).flatten.length = n * zs.length := by simp

theorem zero_get {I : IMap} {z : Value} {zs : List AV} (hz : mapO ofCell z.cells.toList = some zs) (h0 : 0 < zs.length) (q : Nat) : RelC I (zs[q % zs.length]'(Nat.mod_lt _ h0)) (z.cells[q % z.cells.size]!) := by
  obtain ⟨c1, c2, c3⟩ := cells_rel (I := I) hz
  have hlt : q % zs.length < z.cells.size := by rw [c1]; exact Nat.mod_lt _ h0
  have := c3 (q % zs.length) (Nat.mod_lt _ h0)
  rw [c1]
  have e : z.cells[q % zs.length]! = z.cells.getD (q % zs.length) Go.undef := by simp [Array.getD, hlt]
  rw [e]
  exact this

theorem zero_rows {I : IMap} {es n : Nat} {z : Value} {zs : List AV} (hz : mapO ofCell z.cells.toList = some zs) (hl : zs.length = es) (h0 : 0 < es) : Rows I es (List.replicate n zs) ((Array.range (n * es)).map (z.cells[· % z.cells.size]!)) := by
  obtain ⟨c1, c2, c3⟩ := cells_rel (I := I) hz
  refine ⟨by simp, fun r hr => ?_, fun r hr => ?_, fun i hi j hj => ?_⟩
  · rw [(List.mem_replicate.1 hr).2]; exact hl
  · rw [(List.mem_replicate.1 hr).2]; exact c2
  · have hi' : i < n := by simpa using hi
    have hj' : j < es := by simp only [List.getElem_replicate] at hj; omega
    have hlt : i * es + j < n * es := row_lt hi' hj'
    have hm : (i * es + j) % es = j := by rw [Nat.mul_comm, Nat.mul_add_mod, Nat.mod_eq_of_lt hj']
    have := zero_get (I := I) hz (by omega) (i * es + j)
    simp only [hl, hm] at this
    have e : ((Array.range (n * es)).map (z.cells[· % z.cells.size]!)).getD (i * es + j) Go.undef = z.cells[(i * es + j) % z.cells.size]! := by simp [Array.getD, hlt]
    rw [e]
    simp only [List.getElem_replicate]
    exact this

theorem buildSlice_sound (h : At P B0 w0 G k nl s w) {t e : TypeId} {es len : Nat} {zs : List AV} {rows : List (List AV)} {parts : Array (Nat × Operand)} {ps : List (Nat × AOpd)} {ρ : Nat → AV} {a : Act} (hR : TmpsRel G k nl ρ a)
    (ht : P.underlying t = some (.slice e)) (hs : sizeP P e = some es) (hz : zeroP P e = some zs) (hp : compRows parts.toList = some ps) (hle : len * es ≤ 2 ^ 24) (hl : zs.length = es) (h0 : 0 < es)
    (hb : buildRows (List.replicate len zs) (evalT ρ) ps = some rows) :
    ∃ z w', (Instr.buildSlice t len (parts.map fun (i, x) => (i, a.eval x))).run P w = .ok z w' ∧ StepTo P B0 w0 G k nl s s w' (.slice .full es rows) z := by
  obtain ⟨z, h1, h2⟩ := zeroP_run hz
  have hrows := zero_rows (I := G.I) (n := len) h2 hl h0
  have hm : (parts.map fun (i, x) => (i, a.eval x)).toList = parts.toList.map fun p => (p.1, a.eval p.2) := by simp
  obtain ⟨arr', k1, k2, k3⟩ := rows_sound hR parts.toList ps _ rows _ hp hrows hb
  have hlen : rows.length = len := by rw [k3]; simp
  refine ⟨_, _, ?_, newI h e k2 hlen⟩
  have hngt : ¬ (len * es > 2 ^ 24) := by omega
  by_cases hn : len * es = 0
  · have hl0 : len = 0 := by
      rcases Nat.mul_eq_zero.1 hn with h' | h'
      · exact h'
      · omega
    subst hl0
    simp only [Nat.zero_mul, Array.range_zero', Array.map_empty] at k1
    have e0 : ((Array.range 0).map fun x : Nat => ((#[] : Array Value)[x % (#[] : Array Value).size]!)) = #[] := by simp
    simp only [Instr.buildSlice, Sem.run_bind, run_underlying ht, Result.andThen_ok, sizeOf_run hs, if_neg hngt, if_pos hn, Sem.run_pure, hm]
    simp only [Nat.zero_mul, e0, k1, newRow, run_newObj, Sem.run_bind, Result.andThen_ok, Sem.run_pure]
    rfl
  · simp only [Instr.buildSlice, Sem.run_bind, run_underlying ht, Result.andThen_ok, sizeOf_run hs, if_neg hngt, if_neg hn, zeroValue_run h1, Sem.run_pure, hm, k1, newRow, run_newObj]
    rfl

theorem mkSlice_sound (h : At P B0 w0 G k nl s w) {t e : TypeId} {es by_ : Nat} {zs : List AV} {l c v : AV} {lv cv : Value} {s' : Sig} (ht : P.underlying t = some (.slice e)) (hs : sizeP P e = some es) (hby : bytesP P e = some by_)
    (hz : zeroP P e = some zs) (hl : zs.length = es) (h0 : 0 < es) (hble : by_ ≤ 4096) (hx : Rel G k nl l lv) (hy : Rel G k nl c cv) (hm : mkSliceOp s es zs l c = some (v, s')) :
    ∃ z w', (Instr.makeSlice t lv cv).run P w = .ok z w' ∧ StepTo P B0 w0 G k nl s s' w' v z := by
  unfold mkSliceOp at hm
  obtain ⟨cn, hc, hm⟩ := Option.bind_eq_some_iff.1 hm
  obtain ⟨ln, hln, hm⟩ := Option.map_eq_some_iff.1 hm
  obtain ⟨kc, zc, rfl, zc0, zc1, rfl⟩ := asNat_rel hy hc
  obtain ⟨kl, zl, rfl, zl0, zl1, rfl⟩ := asNat_rel hx hln
  obtain ⟨z, h1, h2⟩ := zeroP_run hz
  obtain ⟨i, hi, rfl⟩ := info_of hby
  have hsz : i.size = es := by
    unfold sizeP at hs
    rw [hi] at hs
    simpa using hs
  have hzi : i.zero = some z := by
    rw [hi] at h1
    simpa using h1
  have hzc : zl ≤ zc := by omega
  have hmost : zc ≤ 4294967296 := by unfold most at zc1; exact zc1
  have hbytes : (i.bytes : Int) * zc ≤ 281474976710656 := by
    calc (i.bytes : Int) * zc ≤ 4096 * zc := Int.mul_le_mul_of_nonneg_right (by omega) zc0
      _ ≤ 281474976710656 := by omega
  have hrun := run_make (P := P) w t e i z ht hi hzi kl kc zl zc zl0 hzc hbytes (by omega)
  rw [hsz] at hrun
  refine ⟨_, _, hrun, ?_⟩
  split at hm
  · rename_i he
    injection hm with hm1 hm2
    subst hm1 hm2
    have hz0 : zc.toNat = 0 := by
      have hle := flat_len zs zc.toNat
      have he' : (List.replicate zc.toNat zs).flatten = [] := by simpa using he
      rw [he', List.length_nil, hl] at hle
      rcases Nat.mul_eq_zero.1 hle.symm with h' | h'
      · exact h'
      · omega
    have hz1 : zl.toNat = 0 := by omega
    rw [hz0, hz1]
    exact ⟨_, h.to (h.rel.allocI _ _ _) (G.addI_le _ _ h.rel.I_new _ _) rfl, G.addI_le _ _ h.rel.I_new _ _, rfl, .cl (.empty (.inr rfl))⟩
  rename_i hne
  injection hm with hm1 hm2
  subst hm1 hm2
  have hrow : Row2 (Rel G k nl) (List.replicate zc.toNat zs).flatten (madeCells z.cells (zc.toNat * es)) := by
    refine ⟨by rw [size_madeCells, flat_len, hl], fun q hq => ?_⟩
    rw [flat_len] at hq
    have hg := flat_get zs (by omega) zc.toNat q hq
    have hmod : q % zs.length < zs.length := Nat.mod_lt _ (by omega)
    rw [List.getElem?_eq_getElem hmod, List.getElem?_eq_getElem (by rw [flat_len]; exact hq)] at hg
    injection hg with hg
    rw [hg]
    have := zero_get (I := G.I) h2 (by omega) q
    have e : (madeCells z.cells (zc.toNat * es)).getD q Go.undef = z.cells[q % z.cells.size]! := by
      have : q < zc.toNat * es := by rw [← hl]; exact hq
      simp [madeCells, Array.getD, this]
    rw [e]
    exact .cl this
  have hcells : ∀ c, c ∈ (List.replicate zc.toNat zs).flatten → c.isCell = true := fun c hc => by
    obtain ⟨r, hr, hc⟩ := List.mem_flatten.1 hc
    rw [(List.mem_replicate.1 hr).2] at hc
    exact (cells_rel (I := G.I) h2).2.1 c hc
  exact (newBox_sound h e (fun e => hne (by rw [e]; rfl)) hcells hrow).2.2 es zl.toNat zc.toNat (by omega)

/-! ### Conversions -/

theorem bytesOf_spec {xs : List (List AV)} {l : List UInt8} (hl : bytesOf xs = some l) : l.length = xs.length ∧ ∀ i (hi : i < xs.length) (hj : i < l.length), xs[i] = [.v (.int .u8 (l[i].toNat : Int))] := by
  induction xs generalizing l with
  | nil => simp only [bytesOf] at hl; injection hl with hl; subst hl; simp
  | cons x r ih =>
    simp only [bytesOf] at hl
    split at hl
    · rename_i b s' hb hs'
      injection hl with hl
      subst hl
      obtain ⟨i1, i2⟩ := ih hs'
      refine ⟨by simp [i1], fun i hi hj => ?_⟩
      cases i with
      | zero =>
        simp only [List.getElem_cons_zero]
        unfold byteOf at hb
        split at hb
        · split at hb
          · rename_i n hn
            injection hb with hb
            subst hb
            have : ((UInt8.ofNat n.toNat).toNat : Int) = n := by
              rw [UInt8.toNat_ofNat']
              omega
            rw [this]
          · cases hb
        · cases hb
      | succ i => simpa using i2 i (by simpa using hi) (by simpa using hj)
    · cases hl

theorem conv_sound (h : At P B0 w0 G k nl s w) {src dst : TypeId} {x : Operand} {ax : AOpd} {op : AOp} {kd : ConvKind} {a v : AV} {y : Value} (hc : compConv P src dst ax = some (.conv kd ax)) (hx : Rel G k nl a y) (hv : convOp kd a = some v) :
    ∃ z w', (convert src dst y).run P w = .ok z w' ∧ StepTo P B0 w0 G k nl s s w' v z := by
  unfold compConv at hc
  split at hc
  · rename_i k1 k2 hs hd
    injection hc with hc
    injection hc with hc
    subst hc
    cases a with
    | v q =>
      obtain rfl := hx.inv_v
      cases y with
      | int k3 n =>
        simp only [convOp] at hv
        injection hv with hv
        subst hv
        exact ⟨_, w, by simp [convert, run_underlying hs, run_underlying hd, Conv.intToInt], .same h (.val _ rfl)⟩
      | _ => simp [convOp] at hv
    | _ => simp [convOp] at hv
  · rename_i hs hd
    injection hc with hc
    injection hc with hc
    subst hc
    cases a with
    | v q =>
      obtain rfl := hx.inv_v
      cases y with
      | string q =>
        simp only [convOp] at hv
        injection hv with hv
        subst hv
        exact ⟨_, w, by simp [convert, run_underlying hs, run_underlying hd], .same h (.val _ rfl)⟩
      | _ => simp [convOp] at hv
    | _ => simp [convOp] at hv
  · rename_i e hs hd
    split at hc
    · rename_i he
      injection hc with hc
      injection hc with hc
      subst hc
      cases a with
      | v q =>
        obtain rfl := hx.inv_v
        cases y with
        | string q =>
          simp only [convOp] at hv
          injection hv with hv
          subst hv
          refine ⟨_, _, run_bytes_of_string w src dst e q hs hd he, ?_⟩
          have hrel := (h.rel.drew).allocI (bytesRow q (grownCap w q.size 0 e)) e ((bytesRow q (grownCap w q.size 0 e)).size, (bytesRow q (grownCap w q.size 0 e)).size + 1)
          have hle := G.addI_le w.heap.size (bytesRow q (grownCap w q.size 0 e)) h.rel.I_new (k + 1) s.loops.length
          refine ⟨_, h.to hrel (hle.less (by omega) h.nle) rfl, hle, rfl, .cl ?_⟩
          have hlen : (byteCells q).length = q.size := by simp only [byteCells, List.length_map, Array.length_toList]; rfl
          have hget : ∀ i (hi : i < (byteCells q).length), (byteCells q)[i] = [.v (.int .u8 ((q.data[i]'(by rw [hlen] at hi; exact hi)).toNat : Int))] := fun i hi => by
            simp [byteCells]
          have : SliceC ((G.addI w.heap.size (bytesRow q (grownCap w q.size 0 e))).I) 1 (byteCells q) ⟨w.heap.size, 0, none⟩ (grownCap w q.size 0 e) := by
            refine SliceC.mk (fun c => (.int .u8 ((q.data.getD c 0).toNat : Int))) (by rw [hlen]; exact grownCap_ge _ _ _ _) (fun r hr => ?_) (fun r hr c hc => ?_) (fun c hc => ?_) (fun i hi j hj => ?_)
            · obtain ⟨i, hi, rfl⟩ := List.getElem_of_mem hr
              rw [hget i hi]; rfl
            · obtain ⟨i, hi, rfl⟩ := List.getElem_of_mem hr
              rw [hget i hi] at hc
              simp only [List.mem_singleton] at hc
              subst hc
              rfl
            · rw [hlen, Nat.mul_one] at hc
              simp only [Ghost.addI, if_true, Nat.zero_add]
              have hc' : c < q.data.size := hc
              rw [bytesRow_at q _ c hc', byte_getD hc']
            · have hi' : i < q.data.size := by rw [hlen] at hi; exact hi
              have hj0 : j = 0 := by rw [hget i hi] at hj; simpa using hj
              subst hj0
              simp only [hget i hi, List.getElem_cons_zero, Nat.mul_one, Nat.add_zero]
              rw [byte_getD hi']
              exact .v rfl
          unfold SliceC at this
          rw [hlen] at this
          exact this
        | _ => simp [convOp] at hv
      | _ => simp [convOp] at hv
    · cases hc
  · rename_i e hs hd
    split at hc
    · rename_i he
      injection hc with hc
      injection hc with hc
      subst hc
      cases a with
      | slice o es xs =>
        simp only [convOp] at hv
        obtain ⟨l, hl, rfl⟩ := Option.map_eq_some_iff.1 hv
        rcases hx.inv_slice with ⟨_, rfl, rfl⟩ | ⟨_, p, cap, rfl, hsp, hcap, hxc, _⟩
        · simp only [bytesOf] at hl
          injection hl with hl
          subst hl
          refine ⟨_, w, ?_, .same h (.val _ rfl)⟩
          rw [run_convert_bytes_string w src dst e none 0 0 hs he hd]
          simp [Conv.bytesToString]
          rfl
        · have hbs : l.length = xs.length ∧ ∀ i (hi : i < xs.length) (hj : i < l.length), xs[i] = [.v (.int .u8 (l[i].toNat : Int))] := bytesOf_spec hl
          obtain ⟨b1, b2⟩ := hbs
          refine ⟨_, w, ?_, .same h (.val _ rfl)⟩
          rw [← b1]
          refine run_convert_bytes_back w src dst e p cap l hs he hd (fun j hj => ?_)
          have hj' : j < xs.length := by omega
          cases hxc with
          | empty => exact absurd hj' (Nat.not_lt_zero _)
          | @slice _ _ _ blk off _ f ho hc hes hcell hI hR =>
            have hlen1 : xs[j].length = 1 := by rw [b2 j hj' hj]; rfl
            have hes1 : es = 1 := by rw [← hes _ (List.getElem_mem hj'), hlen1]
            have h1 := hI j hj' 0 (by omega)
            have h2 := hR j hj' 0 (by omega)
            have e0 : xs[j][0] = .v (.int .u8 (l[j].toNat : Int)) := by simp [b2 j hj' hj]
            rw [e0] at h2
            cases hf : f j 0 with
            | int k3 n =>
              rw [hf] at h2 h1
              cases h2
              rw [addr_add]
              have := h.rel.imm _ _ _ h1
              rw [hes1] at this
              simpa using this
            | _ => rw [hf] at h2; cases h2
      | v q => cases q <;> simp [convOp] at hv
      | _ => simp [convOp] at hv
    · cases hc
  · cases hc

/-! ### min and max -/

theorem maxOp_run {mx : Bool} {a b v : AV} {x y : Value} (hx : Rel G k nl a x) (hy : Rel G k nl b y) (h : maxOp mx a b = some v) :
    ∃ z, ((if mx then Builtin.max2 else Builtin.min2) x y).run P w = .ok z w ∧ Rel G k nl v z := by
  unfold maxOp at h
  split at h
  · obtain rfl := hx.inv_v
    obtain rfl := hy.inv_v
    split at h
    · injection h with h
      subst h
      refine ⟨_, ?_, .val _ rfl⟩
      cases mx <;> simp [Builtin.max2, Builtin.min2]
    · cases h
  · cases h

theorem maxFold_run {mx : Bool} : ∀ {as : List AV} {xs : List Value} {a v : AV} {x : Value}, Rel G k nl a x → xs.length = as.length → (∀ i (hi : i < as.length) (hj : i < xs.length), Rel G k nl as[i] xs[i]) → maxFold mx a as = some v →
    ∃ z, (xs.foldlM (if mx then Builtin.max2 else Builtin.min2) x).run P w = .ok z w ∧ Rel G k nl v z
  | [], [], a, v, x, hx, _, _, h => by
    simp only [maxFold] at h
    injection h with h
    subst h
    exact ⟨x, by simp, hx⟩
  | [], _ :: _, _, _, _, _, hl, _, _ => by simp at hl
  | _ :: _, [], _, _, _, _, hl, _, _ => by simp at hl
  | b :: as, y :: xs, a, v, x, hx, hl, hR, h => by
    simp only [maxFold] at h
    split at h
    · rename_i z hz
      obtain ⟨z', r1, r2⟩ := maxOp_run (P := P) (w := w) hx (hR 0 (by simp) (by simp)) hz
      obtain ⟨z'', r3, r4⟩ := maxFold_run r2 (by simpa using hl) (fun i hi hj => hR (i + 1) (by simpa using hi) (by simpa using hj)) h
      refine ⟨z'', ?_, r4⟩
      have r1' : ((if mx then Builtin.max2 else Builtin.min2) x y).run P w = .ok z' w := r1
      simp only [List.foldlM_cons, Sem.run_bind, r1', Result.andThen_ok, r3]
    · cases h

theorem minmax_sound {mx : Bool} {as : List AV} {xs : Array Value} {v : AV} (ts : Array TypeId) (ty : TypeId) (hl : xs.size = as.length) (hR : ∀ i (hi : i < as.length), Rel G k nl as[i] (xs.getD i Go.undef)) (h : minmaxOp mx as = some v) :
    ∃ z, ((if mx then Builtin.max_ else Builtin.min_) ts ty xs).run P w = .ok z w ∧ Rel G k nl v z := by
  cases as with
  | nil => simp [minmaxOp] at h
  | cons a as =>
    simp only [minmaxOp] at h
    obtain ⟨ys⟩ := xs
    cases ys with
    | nil => simp at hl
    | cons y ys =>
      have h0 := hR 0 (by simp)
      simp only [List.getElem_cons_zero] at h0
      obtain ⟨z, r1, r2⟩ := maxFold_run (P := P) (w := w) (xs := ys) (x := y) (by simpa using h0) (by simpa using hl) (fun i hi hj => by
        have := hR (i + 1) (by simpa using hi)
        simpa [Array.getD, hj] using this) h
      refine ⟨z, ?_, r2⟩
      cases mx <;> simpa [Builtin.max_, Builtin.min_] using r1

end
end Go.Ax

/-
  Every operation but a call: what the executor gives is what the model does.
-/
namespace Go.Ax
open Go.RowKit

/-- Is it a call of a function? -/
def isCallA : AOp → Bool
  | .call .. | .callv .. | .callo .. => true
  | _ => false

section
variable {P : Program} {B0 : Nat} {w0 : World} {G : Ghost} {k nl : Nat} {w : World} {s : Sig}

/-- What the model's operation does, as the executor has it. -/
def OpTo (P : Program) (B0 : Nat) (w0 : World) (G : Ghost) (k nl : Nat) (s s' : Sig) (w : World) (v : AV) (m : Sem Next) : Prop :=
  ∃ w', (∃ z, m.run P w = .ok (.value z) w' ∧ StepTo P B0 w0 G k nl s s' w' v z) ∨ (m.run P w = .ok .skip w' ∧ StepTo P B0 w0 G k nl s s' w' v Go.undef)

theorem OpTo.val {s' : Sig} {v : AV} {q : Sem Value} (h : ∃ z w', q.run P w = .ok z w' ∧ StepTo P B0 w0 G k nl s s' w' v z) : OpTo P B0 w0 G k nl s s' w v (do pure (.value (← q))) := by
  obtain ⟨z, w', h1, h2⟩ := h
  exact ⟨w', .inl ⟨z, by simp [h1], h2⟩⟩

theorem OpTo.pureVal (h : At P B0 w0 G k nl s w) {v : AV} {q : Sem Value} (hq : ∃ z, q.run P w = .ok z w ∧ Rel G k nl v z) : OpTo P B0 w0 G k nl s s w v (do pure (.value (← q))) := by
  obtain ⟨z, h1, h2⟩ := hq
  exact .val ⟨z, w, h1, .same h h2⟩

theorem map_pair {α β : Type} {o : Option α} {x : β} {p : α × β} (h : o.map (·, x) = some p) : o = some p.1 ∧ p.2 = x := by
  cases o with
  | none => cases h
  | some y => injection h with h; subst h; exact ⟨rfl, rfl⟩

theorem compBin_cases {op : BinOp} {t : TypeId} {x y : Operand} {o : AOp} (h : compBin P op t x y = some o) :
    ∃ a b, compOpd x = some a ∧ compOpd y = some b ∧ (o = .arith op a b ∨ ∃ neg neg' kd c d, eqNeg op = some neg ∧ compEq P op neg t x y a b = some (.eqv neg' kd c d) ∧ o = .eqv neg' kd c d) := by
  unfold compBin at h
  split at h
  · rename_i a b ha hb
    refine ⟨a, b, ha, hb, ?_⟩
    split at h
    · rename_i neg hn
      have h0 := h
      unfold compEq at h
      split at h <;> first
        | (cases h; done)
        | (injection h with h; subst h; first | exact .inl rfl | exact .inr ⟨_, _, _, _, _, hn, h0, rfl⟩)
        | skip
      · split at h
        · obtain ⟨ks, _, rfl⟩ := Option.map_eq_some_iff.1 h
          exact .inr ⟨_, _, _, _, _, hn, h0, rfl⟩
        · cases h
      · split at h
        · injection h with h; subst h; exact .inr ⟨_, _, _, _, _, hn, h0, rfl⟩
        · cases h
    · injection h with h
      exact .inl h.symm
  · cases h

theorem opt_rel {x : Option Operand} {ax : Option AOpd} {ρ : Nat → AV} {a : Act} (hc : compOpt x = some ax) (hR : TmpsRel G k nl ρ a) : OptRel G k nl (evalOpt (evalT ρ) ax) (x.map a.eval) := by
  cases x with
  | none =>
    simp only [compOpt] at hc
    injection hc with hc
    subst hc
    trivial
  | some x =>
    simp only [compOpt] at hc
    obtain ⟨y, hy, rfl⟩ := Option.map_eq_some_iff.1 hc
    exact opd_rel hy hR

theorem args_rel {xs : List Operand} {as : List AOpd} {ρ : Nat → AV} {a : Act} (hc : mapO compOpd xs = some as) (hR : TmpsRel G k nl ρ a) :
    (xs.toArray.map a.eval).size = (as.map (evalT ρ)).length ∧ ∀ i (hi : i < (as.map (evalT ρ)).length), Rel G k nl (as.map (evalT ρ))[i] ((xs.toArray.map a.eval).getD i Go.undef) := by
  obtain ⟨l1, h1⟩ := mapO_spec hc
  refine ⟨by simp [l1], fun i hi => ?_⟩
  have hi' : i < as.length := by simpa using hi
  have hx : i < xs.length := by omega
  have := opd_rel (h1 i hx hi') hR
  simpa [Array.getD, hx] using this


theorem callOp_sound (h : At P B0 w0 G k nl s w) {ρ : Nat → AV} {a : Act} (hR : TmpsRel G k nl ρ a) {ro own : Bool} {call : CallF} {aop : AOp} {v : AV} {s' : Sig} {c : Call} {ty : TypeId} (hc : compCall P ro own c = some aop) (hn : isCallA aop = false) (hv : opv call (evalT ρ) s aop = some (v, s')) :
    OpTo P B0 w0 G k nl s s' w v (do let d ← resolve a.eval c ty; invoke d.target d.args) := by
  unfold compCall at hc
  split at hc
  · cases hc
  rename_i as has
  have hargs := args_rel has hR
  split at hc
  · injection hc with hc; subst hc; split at hn <;> simp [isCallA] at hn
  · obtain ⟨y, _, rfl⟩ := Option.map_eq_some_iff.1 hc
    simp [isCallA] at hn
  · cases hc
  · rename_i b hb
    have hres : ∀ (m : Sem Next), (do let d ← resolve a.eval c ty; invoke d.target d.args : Sem Next).run P w = m.run P w → OpTo P B0 w0 G k nl s s' w v m → OpTo P B0 w0 G k nl s s' w v (do let d ← resolve a.eval c ty; invoke d.target d.args) := fun m e ho => by
      unfold OpTo at ho ⊢
      rw [e]
      exact ho
    obtain ⟨cons, hrun⟩ : ∃ cons : Array Bool, (do let d ← resolve a.eval c ty; invoke d.target d.args : Sem Next).run P w = (builtin b c.argTypes ty cons (c.args.map a.eval)).run P w := by
      have hr : resolve a.eval c ty = pure { target := .builtin b c.argTypes ty (c.args.map fun | .const _ => true | _ => false), args := c.args.map a.eval } := by
        simp only [resolve, hb]
        rfl
      exact ⟨c.args.map fun | .const _ => true | _ => false, by rw [hr]; rfl⟩
    refine hres _ hrun ?_
    clear hres hrun
    split at hc
    · -- append
      rename_i x y t u e1
      have hat : c.argTypes = #[t, u] := by
        have := congrArg List.toArray e1
        simpa using this
      split at hc
      · rename_i e e' ht hu
        split at hc
        · rename_i sz n z hs hn' hz
          split at hc
          · rename_i hcond
            injection hc with hc
            subst hc
            obtain ⟨c1, c2, c3, c4⟩ := hcond
            obtain ⟨zv, z1, z2⟩ := zeroP_run hz
            have hzl := (cells_rel (I := G.I) z2).1
            obtain ⟨l1, h1⟩ := mapO_spec has
            have hlen2 : c.args.toList.length = 2 := by simpa using l1.symm
            obtain ⟨xx, yy, hxy⟩ : ∃ xx yy, c.args.toList = [xx, yy] := by
              match hh : c.args.toList, hlen2 with
              | [xx, yy], _ => exact ⟨xx, yy, rfl⟩
            have hca : c.args = #[xx, yy] := by
              have := congrArg List.toArray hxy
              simpa using this
            have hx := opd_rel (by simpa [hxy] using h1 0 (by omega) (by simp)) hR
            have hy := opd_rel (by simpa [hxy] using h1 1 (by omega) (by simp)) hR
            have hT : ElemT P t e sz n zv := ⟨ht, hs, hn', z1, by rw [hzl]; exact c4, c1, c2, c3⟩
            obtain ⟨x', w', r1, r2⟩ := append_sound h (ty := ty) hT ⟨e', hu⟩ hx hy hv
            refine .val ⟨x', w', ?_, r2⟩
            rw [hat, hca]
            simpa using r1
          · cases hc
        · cases hc
      · cases hc
    · -- len
      rename_i x t e1
      have hat : c.argTypes = #[t] := by
        have := congrArg List.toArray e1
        simpa using this
      obtain ⟨l1, h1⟩ := mapO_spec has
      have hlen1 : c.args.toList.length = 1 := by simpa using l1.symm
      obtain ⟨xx, hxx⟩ : ∃ xx, c.args.toList = [xx] := by
        match hh : c.args.toList, hlen1 with
        | [xx], _ => exact ⟨xx, rfl⟩
      have hca : c.args = #[xx] := by
        have := congrArg List.toArray hxx
        simpa using this
      have hx := opd_rel (by simpa [hxx] using h1 0 (by omega) (by simp)) hR
      split at hc
      · rename_i e ht
        injection hc with hc
        subst hc
        obtain ⟨q1, q2⟩ := map_pair hv
        simp only at q2
        subst q2
        have := len_sound (P := P) (w := w) (ty := ty) (.inl ⟨rfl, e, ht⟩) hx q1
        rw [hat, hca]
        exact .pureVal h (by simpa using this)
      · rename_i ht
        injection hc with hc
        subst hc
        obtain ⟨q1, q2⟩ := map_pair hv
        simp only at q2
        subst q2
        have := len_sound (P := P) (w := w) (ty := ty) (.inr ⟨rfl, ht⟩) hx q1
        rw [hat, hca]
        exact .pureVal h (by simpa using this)
      · rename_i n e ht
        injection hc with hc
        subst hc
        simp only [opv, Option.some.injEq, Prod.mk.injEq] at hv
        obtain ⟨rfl, rfl⟩ := hv
        rw [hat, hca]
        refine .pureVal h ⟨.int .i64 n, ?_, .val _ rfl⟩
        simp [Builtin.len_, run_underlying ht, goInt]
      · cases hc
    · -- max
      injection hc with hc
      subst hc
      obtain ⟨q1, q2⟩ := map_pair hv
      simp only at q2
      subst q2
      obtain ⟨z, r1, r2⟩ := minmax_sound (P := P) (w := w) (mx := true) c.argTypes ty hargs.1 hargs.2 q1
      exact .pureVal h ⟨z, by simpa using r1, r2⟩
    · injection hc with hc
      subst hc
      obtain ⟨q1, q2⟩ := map_pair hv
      simp only at q2
      subst q2
      obtain ⟨z, r1, r2⟩ := minmax_sound (P := P) (w := w) (mx := false) c.argTypes ty hargs.1 hargs.2 q1
      exact .pureVal h ⟨z, by simpa using r1, r2⟩
    · cases hc

theorem opv_sound (h : At P B0 w0 G k nl s w) {ρ : Nat → AV} {a : Act} (hR : TmpsRel G k nl ρ a) {md : Md} {call : CallF} {aop : AOp} {v : AV} {s' : Sig} {o : Oper} (hc : compOp P md o.op = some aop) (hn : isCallA aop = false) (hv : opv call (evalT ρ) s aop = some (v, s')) :
    OpTo P B0 w0 G k nl s s' w v (execOp a.eval o) := by
  obtain ⟨dst, op, ty, pos, after, guard⟩ := o
  simp only at hc
  -- an operation that leaves the memory as it is
  have pureOp : ∀ {r : Option AV} {q : Sem Value}, r.map (·, s) = some (v, s') → (r = some v → ∃ z, q.run P w = .ok z w ∧ Rel G k nl v z) → OpTo P B0 w0 G k nl s s' w v (do pure (.value (← q))) := fun e f => by
    obtain ⟨q1, q2⟩ := map_pair e
    simp only at q1 q2
    subst q2
    exact .pureVal h (f q1)
  cases op with
  | move x =>
    obtain ⟨y, hy, rfl⟩ := Option.map_eq_some_iff.1 hc
    simp only [opv, Option.some.injEq, Prod.mk.injEq] at hv
    obtain ⟨rfl, rfl⟩ := hv
    exact ⟨w, .inl ⟨a.eval x, rfl, .same h (opd_rel hy hR)⟩⟩
  | assign x =>
    obtain ⟨y, hy, rfl⟩ := Option.map_eq_some_iff.1 hc
    simp only [opv, Option.some.injEq, Prod.mk.injEq] at hv
    obtain ⟨rfl, rfl⟩ := hv
    exact ⟨w, .inl ⟨a.eval x, rfl, .same h (opd_rel hy hR)⟩⟩
  | pick x y z =>
    simp only [compOp] at hc
    split at hc
    · rename_i ax ay az e1 e2 e3
      injection hc with hc
      subst hc
      obtain ⟨q1, q2⟩ := map_pair hv
      simp only at q1 q2
      subst q2
      obtain ⟨u, r1, r2⟩ := pick_sound (opd_rel e1 hR) (opd_rel e2 hR) (opd_rel e3 hR) q1
      refine ⟨w, .inl ⟨_, ?_, .same h r2⟩⟩
      simp [execOp, r1, asBool]
    · cases hc
  | alloc e =>
    simp only [compOp] at hc
    split at hc
    · obtain ⟨zs, hz, rfl⟩ := Option.map_eq_some_iff.1 hc
      simp only [opv] at hv
      split at hv
      · cases hv
      rename_i hne
      simp only [Option.some.injEq] at hv
      obtain ⟨z, z1, z2⟩ := zeroP_run hz
      obtain ⟨c1, c2, c3⟩ := cells_rel (I := G.I) z2
      have := (newBox_sound h (arr := z.cells) e (fun e => hne (by rw [e]; rfl)) c2 ⟨c1, fun i hi => .cl (c3 i hi)⟩).1
      rw [hv] at this
      refine .val ⟨_, _, ?_, this⟩
      simp only [Instr.alloc, Sem.run_bind, zeroValue_run z1, Result.andThen_ok]
      simp [newVar, newRow]
    · obtain ⟨zs, hz, rfl⟩ := Option.map_eq_some_iff.1 hc
      simp only [opv] at hv
      obtain ⟨z, z1, z2⟩ := zeroP_run hz
      obtain ⟨c1, c2, c3⟩ := cells_rel (I := G.I) z2
      refine .val ⟨_, _, ?_, slot_sound h e c2 ⟨c1, fun i hi => .cl (c3 i hi)⟩ hv⟩
      simp only [Instr.alloc, Sem.run_bind, zeroValue_run z1, Result.andThen_ok]
      simp [newVar, newRow]
  | box e x =>
    simp only [compOp] at hc
    split at hc
    · rename_i n y e1 e2
      injection hc with hc
      subst hc
      simp only [opv, boxOp] at hv
      split at hv
      · rename_i hcond
        injection hv with hv
        have hx := opd_rel e2 hR
        have hrow := hx.cells hcond.2.1
        have := (newBox_sound h (arr := (a.eval x).cells) e (fun e => by have h1 := hcond.1; have h2 := hcond.2.2; rw [e] at h1; simp at h1; omega) (List.all_eq_true.1 hcond.2.1) hrow).1
        rw [hv] at this
        refine .val ⟨_, _, ?_, this⟩
        simp [Instr.box, newVar, newRow]
      · cases hv
    · cases hc
  | build t parts =>
    simp only [compOp] at hc
    split at hc
    · rename_i z fs e1 e2
      split at hc
      · rename_i hall
        obtain ⟨ps, hps, rfl⟩ := Option.map_eq_some_iff.1 hc
        simp only [opv] at hv
        obtain ⟨cs, hcs, hv⟩ := Option.map_eq_some_iff.1 hv
        injection hv with h1 h2
        subst h1 h2
        exact .pureVal h (buildStruct_sound hR e1 e2 hall hps hcs)
      · cases hc
    · rename_i z n e e1 e2
      split at hc
      · rename_i sz e3
        obtain ⟨ps, hps, rfl⟩ := Option.map_eq_some_iff.1 hc
        simp only [opv] at hv
        obtain ⟨cs, hcs, hv⟩ := Option.map_eq_some_iff.1 hv
        injection hv with h1 h2
        subst h1 h2
        exact .pureVal h (buildArr_sound hR e1 e2 e3 hps hcs)
      · cases hc
    · cases hc
  | buildSlice t len parts =>
    simp only [compOp] at hc
    split at hc
    · rename_i e ht
      split at hc
      · rename_i sz z ps e1 e2 e3
        split at hc
        · rename_i hcond
          injection hc with hc
          subst hc
          simp only [opv] at hv
          obtain ⟨rs, hrs, hv⟩ := Option.map_eq_some_iff.1 hv
          injection hv with h1 h2
          subst h1 h2
          exact .val (buildSlice_sound h hR ht e1 e2 e3 hcond.1 hcond.2.1 hcond.2.2 hrs)
        · cases hc
      · cases hc
    · cases hc
  | load t x =>
    simp only [compOp] at hc
    split at hc
    · rename_i g n y e1 e2 e3
      injection hc with hc
      split at hc
      · subst hc
        exact pureOp hv fun e => load_sound h (opd_rel e3 hR) e e1 e2
      · subst hc
        refine pureOp hv fun e => load_sound h (opd_rel e3 hR) ?_ e1 e2
        unfold loadrOp at e
        split at e
        · split at e
          · cases e
          · rename_i hx _; rw [hx]; exact e
        · exact e
    · cases hc
  | store t x y =>
    simp only [compOp] at hc
    split at hc
    · rename_i n ax ay e1 e2 e3
      injection hc with hc
      have hm : ∃ m, s' = m ∧ v = AV.undef ∧ s.store n (evalT ρ ax) (evalT ρ ay) = some m := by
        split at hc
        · subst hc
          simp only [opv] at hv
          obtain ⟨m, hm, hv⟩ := Option.map_eq_some_iff.1 hv
          injection hv with h1 h2
          exact ⟨m, h2.symm, h1.symm, hm⟩
        · subst hc
          simp only [opv] at hv
          obtain ⟨m, hm, hv⟩ := Option.map_eq_some_iff.1 hv
          injection hv with h1 h2
          refine ⟨m, h2.symm, h1.symm, ?_⟩
          unfold fillOp at hm
          split at hm
          · split at hm
            · rename_i hx _; rw [hx]; exact hm
            · cases hm
          · cases hm
      obtain ⟨m, rfl, rfl, hm⟩ := hm
      obtain ⟨w', r1, r2⟩ := store_sound h (opd_rel e2 hR) (opd_rel e3 hR) e1 hm
      exact ⟨w', .inr ⟨by simp [execOp, r1], r2⟩⟩
    · cases hc
  | nilCheck x =>
    obtain ⟨y, hy, rfl⟩ := Option.map_eq_some_iff.1 hc
    obtain ⟨q1, q2⟩ := map_pair hv
    simp only at q1 q2
    subst q2
    obtain ⟨r1, n1, n2, n3, n4⟩ := nilCheck_sound (opd_rel hy hR) q1
    refine ⟨w, .inl ⟨a.eval x, ?_, .same h r1⟩⟩
    unfold execOp
    simp only
    rfl
  | binOp op t x y yt =>
    obtain ⟨ax, ay, e1, e2, hq⟩ := compBin_cases hc
    rcases hq with rfl | ⟨neg, neg', kd, c, d, hneg, hm, rfl⟩
    · refine pureOp hv fun e => ?_
      obtain ⟨z, r1, r2, r3, r4⟩ := arith_sound (P := P) (w := w) t (opd_rel e1 hR) (opd_rel e2 hR) e
      exact ⟨z, by simp [eqGuard_other r3 r4, r1], r2⟩
    · simp only [opv] at hv
      obtain ⟨t', ht', hv⟩ := Option.map_eq_some_iff.1 hv
      injection hv with h1 h2
      subst h1 h2
      exact .pureVal h ⟨_, eqv_sound hneg (opd_rel e1 hR) (opd_rel e2 hR) hm ht', .val _ rfl⟩
  | unOp op t x =>
    obtain ⟨y, hy, rfl⟩ := Option.map_eq_some_iff.1 hc
    exact pureOp hv fun e => unOp_sound (opd_rel hy hR) e
  | convert src dst x =>
    simp only [compOp] at hc
    obtain ⟨y, hy, hc⟩ := Option.bind_eq_some_iff.1 hc
    have hk : ∃ kd, aop = .conv kd y := by
      unfold compConv at hc
      split at hc
      · injection hc with hc; exact ⟨_, hc.symm⟩
      · injection hc with hc; exact ⟨_, hc.symm⟩
      · split at hc
        · injection hc with hc; exact ⟨_, hc.symm⟩
        · cases hc
      · split at hc
        · injection hc with hc; exact ⟨_, hc.symm⟩
        · cases hc
      · cases hc
    obtain ⟨kd, rfl⟩ := hk
    obtain ⟨q1, q2⟩ := map_pair hv
    simp only at q1 q2
    subst q2
    exact .val (conv_sound (x := x) (op := .lenArr 0) h hc (opd_rel hy hR) q1)
  | makeInterface t x =>
    simp only [compOp] at hc
    split at hc
    · cases hc
    · rename_i d hni hd
      obtain ⟨y, hy, rfl⟩ := Option.map_eq_some_iff.1 hc
      refine pureOp hv fun e => ⟨.iface t (a.eval x), ?_, iface_sound (opd_rel hy hR) e⟩
      simp only [Instr.makeInterface, Sem.run_bind, run_underlying hd, Result.andThen_ok]
      cases d <;> first | (exact absurd hd (hni _)) | rfl
    · cases hc
  | makeFunc fn first caps =>
    cases fn with
    | func f =>
      simp only [compOp] at hc
      split at hc
      · rename_i af ac e1 e2
        injection hc with hc
        subst hc
        simp only [opv] at hv
        split at hv
        · rename_i hcl
          injection hv with hv
          injection hv with h1 h2
          subst h1 h2
          have := mkFn_sound (f := f) hR e1 e2 hcl
          exact .pureVal h ⟨_, by simp [Instr.makeFunc]; rfl, by simpa using this⟩
        · cases hv
      · cases hc
    | _ => simp [compOp] at hc
  | makeSlice t l c =>
    simp only [compOp] at hc
    split at hc
    · rename_i e ht
      split at hc
      · rename_i sz n z al ac e1 e2 e3 e4 e5
        split at hc
        · rename_i hcond
          injection hc with hc
          subst hc
          exact .val (mkSlice_sound h ht e1 e2 e3 hcond.2.2 hcond.1 hcond.2.1 (opd_rel e4 hR) (opd_rel e5 hR) hv)
        · cases hc
      · cases hc
    · cases hc
  | slice t x lo hi mx =>
    simp only [compOp] at hc
    split at hc
    · rename_i ax al ah am e1 e2 e3 e4
      split at hc
      · rename_i ht
        injection hc with hc
        subst hc
        exact pureOp hv fun e => sliceOp_sound (kd := .str) ht (opd_rel e1 hR) (opt_rel e2 hR) (opt_rel e3 hR) (opt_rel e4 hR) e
      · rename_i e0 ht
        obtain ⟨sz, hsz, rfl⟩ := Option.map_eq_some_iff.1 hc
        exact pureOp hv fun e => sliceOp_sound (kd := .sl sz) ⟨e0, ht, hsz⟩ (opd_rel e1 hR) (opt_rel e2 hR) (opt_rel e3 hR) (opt_rel e4 hR) e
      · rename_i n e0 ht
        obtain ⟨sz, hsz, rfl⟩ := Option.map_eq_some_iff.1 hc
        exact pureOp hv fun e => sliceOp_sound (kd := .arr n sz) ⟨e0, ht, hsz⟩ (opd_rel e1 hR) (opt_rel e2 hR) (opt_rel e3 hR) (opt_rel e4 hR) e
      · cases hc
    · cases hc
  | fieldAddr t x i =>
    simp only [compOp] at hc
    split at hc
    · rename_i fs ax ht e1
      split at hc
      · rename_i f hf
        split at hc
        · rename_i n hn'
          split at hc
          · rename_i h0
            injection hc with hc
            subst hc
            exact pureOp hv fun e => fieldAddr_sound ht hf hn' h0 (opd_rel e1 hR) e
          · cases hc
        · cases hc
      · cases hc
    · cases hc
  | field t x i =>
    simp only [compOp] at hc
    split at hc
    · rename_i fs ax ht e1
      split at hc
      · rename_i f hf
        split at hc
        · rename_i g n hg hn'
          injection hc with hc
          subst hc
          exact pureOp hv fun e => field_sound ht hf hg hn' (opd_rel e1 hR) e
        · cases hc
      · cases hc
    · cases hc
  | indexAddr t x i =>
    simp only [compOp] at hc
    split at hc
    · rename_i ax ai e1 e2
      split at hc
      · rename_i n e0 ht
        obtain ⟨sz, hsz, rfl⟩ := Option.map_eq_some_iff.1 hc
        exact pureOp hv fun e => indexArr_sound ht hsz (opd_rel e1 hR) (opd_rel e2 hR) e
      · rename_i e0 ht
        obtain ⟨sz, hsz, rfl⟩ := Option.map_eq_some_iff.1 hc
        exact pureOp hv fun e => indexSl_sound ht hsz (opd_rel e1 hR) (opd_rel e2 hR) e
      · cases hc
    · cases hc
  | index t x i =>
    simp only [compOp] at hc
    split at hc
    · rename_i ax ai e1 e2
      split at hc
      · rename_i n e0 ht
        split at hc
        · rename_i g sz hg hsz
          injection hc with hc
          subst hc
          exact pureOp hv fun e => index_sound ht hg hsz (opd_rel e1 hR) (opd_rel e2 hR) e
        · cases hc
      · rename_i ht
        injection hc with hc
        subst hc
        exact pureOp hv fun e => indexStr_sound ht (opd_rel e1 hR) (opd_rel e2 hR) e
      · cases hc
    · cases hc
  | extract x i =>
    obtain ⟨y, hy, rfl⟩ := Option.map_eq_some_iff.1 hc
    exact pureOp hv fun e => extract_sound (opd_rel hy hR) e
  | call c => exact callOp_sound h hR (ty := ty) hc hn hv
  | _ => simp [compOp] at hc

end
end Go.Ax

/-
  An activation begins, and ends.
-/
namespace Go.Ax
open Go.RowKit

section
variable {P : Program} {B0 : Nat} {w0 : World} {G : Ghost} {k nl : Nat} {w : World} {s : Sig}

/-! ### It begins -/

def Ghost.pushA (G : Ghost) (nl : Nat) : Ghost := { G with acts := G.acts ++ [⟨[], [], nl, []⟩] }

theorem Ghost.pushA_le (G : Ghost) (n : Nat) (k nl : Nat) : GLe k nl G (G.pushA n) :=
  ⟨fun _ _ _ e => e, fun _ gr _ e => ⟨gr, get_old e, .refl gr, fun _ => rfl⟩, fun _ _ _ e => e⟩

theorem push_sound (h : SRel P B0 w0 G s w) : At P B0 w0 (G.pushA s.loops.length) s.acts.length s.loops.length (s.push ⟨[], []⟩) w := by
  have hle := G.pushA_le s.loops.length
  have hk : KeepsOwn (fun _ => False) G w (G.pushA s.loops.length) w := fun b o e _ => ⟨e, rfl, fun _ e => e⟩
  have hnew : (G.pushA s.loops.length).acts[s.acts.length]? = some ⟨[], [], s.loops.length, []⟩ := by
    simp [Ghost.pushA, ← h.len]
  refine ⟨⟨h.imm, by simp [Ghost.pushA, Sig.push, h.len], h.llen, fun d r gr h1 h2 => ?_, fun l lp r h1 h2 => ?_, fun d gr h1 => ?_, fun d d' gr gr' hd h1 h2 => ?_, h.below, h.low, h.ownlt⟩, by simp [Sig.push], _, hnew, rfl⟩
  · rcases get_push h1 with ⟨hd, h1⟩ | ⟨hd, rfl⟩
    · rcases get_push h2 with ⟨_, h2⟩ | ⟨hd', _⟩
      · exact (h.rec_ d r gr h1 h2).keep (hle _ _) hk (fun o ho => ho.elim)
      · rw [h.len] at hd'; omega
    · rcases get_push h2 with ⟨hd', _⟩ | ⟨_, rfl⟩
      · rw [h.len] at hd'; omega
      · exact ⟨rfl, rfl, fun b cs blk e => by simp at e, fun b blk e => by simp at e, fun g n T e => by simp at e, fun i b e => by simp at e⟩
  · have hr := h.loop l lp r h1 h2
    obtain ⟨k1, k2, _⟩ := hk _ _ hr.2.1 (fun x => x)
    exact hr.keep (fun k nl _ _ => hle k nl) (by simp [Ghost.pushA]) k1 k2
  · rcases get_push h1 with ⟨_, h1⟩ | ⟨_, rfl⟩
    · exact h.nls d gr h1
    · exact Nat.le_refl _
  · rcases get_push h1 with ⟨hl1, h1⟩ | ⟨hl1, rfl⟩
    · rcases get_push h2 with ⟨_, h2⟩ | ⟨_, rfl⟩
      · exact h.nlm d d' gr gr' hd h1 h2
      · exact h.nls d gr h1
    · rcases get_push h2 with ⟨hl2, _⟩ | ⟨_, rfl⟩
      · omega
      · exact Nat.le_refl _

/-! ### Its marks are taken -/

def Ghost.dropMarks (G : Ghost) (k : Nat) : Ghost :=
  { G with acts := G.acts.modify k fun q => { q with marks := [] }, own := fun b => match G.own b with
    | some (.mark d i) => if d = k then none else some (.mark d i)
    | o => o }

theorem Ghost.dropMarks_le (G : Ghost) (k nl : Nat) {k' : Nat} (hk : k' ≤ k) : GLe k' nl G (G.dropMarks k) :=
  ⟨fun _ _ _ e => e, fun d gr hd e => by
    by_cases hdk : k = d
    · subst hdk
      exact ⟨{ gr with marks := [] }, by simp only [Ghost.dropMarks, modify_get, if_pos, e]; rfl, ⟨fun _ _ e => e, fun _ T e => ⟨T, e, .refl T⟩, rfl⟩, fun hlt => by omega⟩
    · exact ⟨gr, by simp only [Ghost.dropMarks, modify_get, if_neg hdk, e], .refl gr, fun _ => rfl⟩, fun _ _ _ e => e⟩

theorem Ghost.dropMarks_own {G : Ghost} {k b : Nat} {o : Owner} (h : G.own b = some o) (ho : ∀ i, o ≠ .mark k i) : (G.dropMarks k).own b = some o := by
  simp only [Ghost.dropMarks, h]
  cases o with
  | mark d i =>
    simp only
    rw [if_neg (fun e => ho i (by rw [e]))]
  | _ => rfl

theorem dropMarks_sound (h : At P B0 w0 G k nl s w) : At P B0 w0 (G.dropMarks k) k nl s w := by
  have hlen : G.acts.length = k + 1 := by rw [h.rel.len, h.len]
  have hk : KeepsOwn (fun o => ∃ i, o = .mark k i) G w (G.dropMarks k) w := fun b o e ho => ⟨Ghost.dropMarks_own e (fun i e => ho ⟨i, e⟩), rfl, fun _ e => e⟩
  have hget : ∀ (d : Nat) (gr : GRec), (G.dropMarks k).acts[d]? = some gr → ∃ gr0, G.acts[d]? = some gr0 ∧ gr.nl = gr0.nl ∧ gr.bl = gr0.bl ∧ gr.tk = gr0.tk ∧ (d ≠ k → gr = gr0) ∧ (d = k → gr.marks = []) := fun d gr e => by
    simp only [Ghost.dropMarks, modify_get] at e
    by_cases hd : k = d
    · rw [if_pos hd] at e
      obtain ⟨g0, h1, rfl⟩ := Option.map_eq_some_iff.1 e
      exact ⟨g0, h1, rfl, rfl, rfl, fun hne => absurd hd.symm hne, fun _ => rfl⟩
    · rw [if_neg hd] at e
      exact ⟨gr, e, rfl, rfl, rfl, fun _ => rfl, fun e => absurd e.symm hd⟩
  have hs : SRel P B0 w0 (G.dropMarks k) s w := by
    refine ⟨h.rel.imm, by simp [Ghost.dropMarks, h.rel.len], h.rel.llen, fun d r gr h1 h2 => ?_, fun l lp r h1 h2 => ?_, fun d gr h1 => ?_, fun d d' gr gr' hd h1 h2 => ?_, h.rel.below, h.rel.low, fun b o e => ?_⟩
    · obtain ⟨g0, e0, e1, e2, e3, e4, e5⟩ := hget d gr h2
      have hr := h.rel.rec_ d r g0 h1 e0
      have hdk : d ≤ k := by have := (List.getElem?_eq_some_iff.1 h1).1; rw [h.len] at this; omega
      by_cases hd : d = k
      · subst hd
        refine ⟨by rw [e2]; exact hr.blen, by rw [e3]; exact hr.tlen, fun b cs blk a1 a2 => ?_, fun b blk a1 => hr.full b blk (by rw [← e2]; exact a1), fun g n T a1 a2 => ?_, fun i b a1 => ?_⟩
        · rw [e2] at a2
          have hb := hr.box b cs blk a1 a2
          rw [e1]
          exact hb.keep (G.dropMarks_le d _ (Nat.le_refl _)) (Ghost.dropMarks_own hb.2.1 (fun i e => by cases e)) rfl (fun _ e => e)
        · rw [e3] at a2
          have ht := hr.tok g n T a1 a2
          refine ht.keep (fun hn => ?_) (fun _ => rfl) (fun _ _ e => e)
          obtain ⟨m, hm⟩ := Option.isSome_iff_exists.1 hn
          exact Ghost.dropMarks_own (ht.2 m hm).2.1 (fun i e => by cases e)
        · rw [e5 rfl] at a1
          simp at a1
      · rw [e4 hd]
        refine hr.keep (G.dropMarks_le k _ hdk) hk (fun o ho => ?_)
        obtain ⟨i, rfl⟩ := ho
        refine ⟨fun _ e => by (cases e), fun _ e => by (cases e), fun _ e => ?_⟩
        injection e with e _
        exact hd e.symm
    · have hr := h.rel.loop l lp r h1 h2
      obtain ⟨k1, k2, _⟩ := hk _ _ hr.2.1 (fun ⟨i, e⟩ => by cases e)
      exact hr.keep (fun k' nl' a1 _ => G.dropMarks_le k _ (by omega)) (by simp [Ghost.dropMarks]) k1 k2
    · obtain ⟨g0, e0, e1, _⟩ := hget d gr h1
      rw [e1]
      exact h.rel.nls d g0 e0
    · obtain ⟨g0, e0, e1, _⟩ := hget d gr h1
      obtain ⟨g0', e0', e1', _⟩ := hget d' gr' h2
      rw [e1, e1']
      exact h.rel.nlm d d' g0 g0' hd e0 e0'
    · simp only [Ghost.dropMarks] at e
      cases ho : G.own b with
      | none => rw [ho] at e; cases e
      | some o' => exact h.rel.ownlt b o' ho
  exact h.to hs (G.dropMarks_le k nl (Nat.le_refl _)) rfl

/-- A mark's block is turned: it is nobody's, from B0 on, and no cells. -/
theorem putMark {b : Nat} {o o' : Obj} (h : At P B0 w0 G k nl s w) (hb : B0 ≤ b) (hown : G.own b = none) (hw : w.heap[b]? = some o) (hc : ∀ a t f, o ≠ .cells a t f) : At P B0 w0 G k nl s (w.putObj b o') := by
  have hI : ∀ i v, G.I b i ≠ some v := fun i v e => by
    have := h.rel.imm b i v e
    simp only [World.cell?, hw] at this
    cases o <;> first | (exact absurd rfl (hc _ _ _)) | (simp at this)
  have hs : SRel P B0 w0 G s (w.putObj b o') := by
    refine h.rel.keep (fun _ _ _ e => e) rfl rfl (fun c q e _ => ⟨e, World.putObj_heap_other (fun hcb => ?_), fun _ e => e⟩) (fun c i v e => ?_) ?_ (fun c q e => ?_)
    · subst hcb
      rw [hown] at e
      cases e
    · have hne : c ≠ b := fun e' => hI i v (e' ▸ e)
      have := h.rel.imm c i v e
      have hh : (w.putObj b o').heap[c]? = w.heap[c]? := World.putObj_heap_other hne
      rw [← this]
      simp only [World.cell?, hh]
    · exact ⟨rfl, rfl, rfl, by simp, fun c hc => World.putObj_heap_other (by omega)⟩
    · rw [World.putObj_size]
      exact h.rel.ownlt c q e
  exact ⟨hs, h.len, h.cur⟩

/-! ### It ends -/

def Ghost.popA (G : Ghost) (k : Nat) (bl : List (Option Nat)) (w : World) : Ghost where
  I := fun b i => if some b ∈ bl then w.cell? ⟨b, i, none⟩ else G.I b i
  acts := G.acts.dropLast
  loops := G.loops
  own := fun b => match G.own b with
    | some (.box d x) => if d = k then none else some (.box d x)
    | some (.tok d x) => if d = k then none else some (.tok d x)
    | some (.mark d x) => if d = k then none else some (.mark d x)
    | o => o

/-- Is it the owner of something in activation k? -/
def ownsIn (k : Nat) (o : Owner) : Prop := (∃ b, o = .box k b) ∨ (∃ g, o = .tok k g) ∨ ∃ i, o = .mark k i

theorem Ghost.popA_own {G : Ghost} {k b : Nat} {bl : List (Option Nat)} {o : Owner} (h : G.own b = some o) (ho : ¬ ownsIn k o) : (G.popA k bl w).own b = some o := by
  simp only [Ghost.popA, h]
  cases o with
  | box d x => simp only; rw [if_neg (fun e => ho (.inl ⟨x, by rw [e]⟩))]
  | tok d x => simp only; rw [if_neg (fun e => ho (.inr (.inl ⟨x, by rw [e]⟩)))]
  | mark d x => simp only; rw [if_neg (fun e => ho (.inr (.inr ⟨x, by rw [e]⟩)))]
  | loop l => rfl

theorem Ghost.popA_free {G : Ghost} {k b : Nat} {bl : List (Option Nat)} {o : Owner} (h : G.own b = some o) (ho : ownsIn k o) : (G.popA k bl w).own b = none := by
  simp only [Ghost.popA, h]
  rcases ho with ⟨x, rfl⟩ | ⟨x, rfl⟩ | ⟨x, rfl⟩ <;> simp

theorem dropLast_get {α : Type} {l : List α} {n d : Nat} (hl : l.length = n + 1) : l.dropLast[d]? = if d < n then l[d]? else none := by
  rw [List.getElem?_dropLast]
  simp only [hl, Nat.add_sub_cancel]

theorem pop_sound (h : At P B0 w0 G k nl s w) (hll : s.loops.length = nl) {gr : GRec} (hg : G.acts[k]? = some gr) :
    SRel P B0 w0 (G.popA k gr.bl w) s.pop w ∧ (∀ b i v, G.I b i = some v → (G.popA k gr.bl w).I b i = some v) ∧ (∀ b, some b ∈ gr.bl → ∀ i, (G.popA k gr.bl w).I b i = w.cell? ⟨b, i, none⟩) ∧
    ∀ d, d < k → (G.popA k gr.bl w).acts[d]? = G.acts[d]? := by
  have hlen : G.acts.length = k + 1 := by rw [h.rel.len, h.len]
  obtain ⟨r, gr', hr, hg'⟩ := h.rec_ (Nat.le_refl k)
  rw [hg] at hg'
  injection hg' with hg'
  subst hg'
  have hrr := h.rel.rec_ k r gr hr hg
  have hnl : gr.nl = nl := by obtain ⟨g', e1, e2⟩ := h.cur; rw [hg] at e1; injection e1 with e1; rw [e1]; exact e2
  have hbox : ∀ b, some b ∈ gr.bl → ∃ x, G.own b = some (.box k x) ∧ ∀ i, G.I b i = none := fun b hb => by
    obtain ⟨x, hx, hxb⟩ := List.getElem_of_mem hb
    have hx' : x < r.boxes.length := by rw [← hrr.blen]; exact hx
    have := hrr.box x _ b (List.getElem?_eq_getElem hx') (by rw [List.getElem?_eq_getElem hx, hxb])
    exact ⟨x, this.2.1, this.2.2.1⟩
  have hI : ∀ b i v, G.I b i = some v → (G.popA k gr.bl w).I b i = some v := fun b i v e => by
    simp only [Ghost.popA]
    rw [if_neg (fun hb => by obtain ⟨_, _, hn⟩ := hbox b hb; rw [hn] at e; cases e)]
    exact e
  have hacts : ∀ d, d < k → (G.popA k gr.bl w).acts[d]? = G.acts[d]? := fun d hd => by
    simp only [Ghost.popA, dropLast_get hlen]
    rw [if_pos hd]
  have hget : ∀ (d : Nat) (q : GRec), (G.popA k gr.bl w).acts[d]? = some q → d < k ∧ G.acts[d]? = some q := fun d q e => by
    simp only [Ghost.popA, dropLast_get hlen] at e
    split at e
    · exact ⟨by assumption, e⟩
    · cases e
  have hle : ∀ k' nl', k' < k → GLe k' nl' G (G.popA k gr.bl w) := fun k' nl' hk' =>
    ⟨hI, fun d q hd e => ⟨q, by rw [hacts d (by omega)]; exact e, .refl q, fun _ => rfl⟩, fun _ _ _ e => e⟩
  have hko : KeepsOwn (ownsIn k) G w (G.popA k gr.bl w) w := fun b o e ho => ⟨Ghost.popA_own e ho, rfl, fun i hi => by
    simp only [Ghost.popA]
    rw [if_neg (fun hb => by
      obtain ⟨x, hx, _⟩ := hbox b hb
      rw [e] at hx
      injection hx with hx
      exact ho (.inl ⟨x, hx⟩))]
    exact hi⟩
  refine ⟨⟨fun b i v e => ?_, by simp [Ghost.popA, Sig.pop, h.rel.len], h.rel.llen, fun d q gq h1 h2 => ?_, fun l lp q h1 h2 => ?_, fun d q h1 => ?_, fun d d' q q' hd h1 h2 => ?_, h.rel.below, h.rel.low, fun b o e => ?_⟩, hI, fun b hb i => ?_, hacts⟩
  · simp only [Ghost.popA] at e
    split at e
    · exact e
    · exact h.rel.imm b i v e
  · obtain ⟨hdk, h2⟩ := hget d gq h2
    have h1' : s.acts[d]? = some q := by
      simp only [Sig.pop, dropLast_get h.len] at h1
      rw [if_pos hdk] at h1
      exact h1
    refine (h.rel.rec_ d q gq h1' h2).keep (hle _ _ hdk) hko (fun o ho => ?_)
    rcases ho with ⟨x, rfl⟩ | ⟨x, rfl⟩ | ⟨x, rfl⟩
    · exact ⟨fun _ e => by (injection e with e _; omega), fun _ e => by (cases e), fun _ e => by (cases e)⟩
    · exact ⟨fun _ e => by (cases e), fun _ e => by (injection e with e _; omega), fun _ e => by (cases e)⟩
    · exact ⟨fun _ e => by (cases e), fun _ e => by (cases e), fun _ e => by (injection e with e _; omega)⟩
  · have hlp := h.rel.loop l lp q h1 h2
    obtain ⟨b1, b2, rc, b3, b4⟩ := hlp
    obtain ⟨k1, k2, _⟩ := hko _ _ b2 (fun ho => by rcases ho with ⟨x, e⟩ | ⟨x, e⟩ | ⟨x, e⟩ <;> cases e)
    obtain ⟨a1, a2, a3, a4, a5, a6, a7, a8, a9, a10, k', nl', a11, a12, a14, a13⟩ := b4
    have hl : l < nl := by have := (List.getElem?_eq_some_iff.1 h1).1; simp only [Sig.pop] at this; omega
    have hk' : k' < k := a14 k gr hg (by omega)
    refine ⟨b1, k1, rc, k2.trans b3, a1, a2, a3, a4, a5, a6, a7, a8, a9, a10, k', nl', ?_, a12, fun d q' e hlt => a14 d q' (hget d q' e).2 hlt, fun t => (a13 t).mono (hle k' nl' hk') (Nat.le_refl _) (Nat.le_refl _)⟩
    simp [Ghost.popA, hlen]
    omega
  · exact h.rel.nls d q (hget d q h1).2
  · exact h.rel.nlm d d' q q' hd (hget d q h1).2 (hget d' q' h2).2
  · simp only [Ghost.popA] at e
    cases ho : G.own b with
    | none => rw [ho] at e; cases e
    | some o' => exact h.rel.ownlt b o' ho
  · simp only [Ghost.popA]
    rw [if_pos hb]

end
end Go.Ax
