/-
  The other operations without a call: each one's run (2).
-/
import Derived.Test.YtfmojojicndbcaaAxJ
namespace Go.Ax
open Go.RowKit

section
variable {P : Program} {B0 : Nat} {w0 : World} {G : Ghost} {k nl : Nat} {w : World} {s : Sig}

theorem pick_sound {c a b v : AV} {x y z : Value} (hx : Rel G k nl c x) (hy : Rel G k nl a y) (hz : Rel G k nl b z) (h : pickOp c a b = some v) :
    ∃ t : Bool, x = .bool t ∧ Rel G k nl v (if t then y else z) := by
  unfold pickOp at h
  split at h
  · rename_i t
    obtain rfl := hx.inv_v
    injection h with h
    subst h
    refine ⟨t, rfl, ?_⟩
    cases t
    · exact hz
    · exact hy
  · cases h

theorem unOp_sound {op : UnOp} {a v : AV} {x : Value} (hx : Rel G k nl a x) (h : unOp op a = some v) : ∃ z, (Op.unary op x).run P w = .ok z w ∧ Rel G k nl v z := by
  unfold unOp at h
  split at h
  · obtain rfl := hx.inv_v
    cases op <;> simp only at h <;> first
      | (injection h with h; subst h; exact ⟨_, by simp [Op.unary], .val _ rfl⟩)
      | cases h
  · obtain rfl := hx.inv_v
    cases op <;> simp only at h <;> first
      | (injection h with h; subst h; exact ⟨_, by simp [Op.unary, Op.intArith], .val _ rfl⟩)
      | cases h
  · cases h

theorem nilCheck_sound {a v : AV} {x : Value} (hx : Rel G k nl a x) (h : nilCheckOp a = some v) : Rel G k nl v x ∧ (x ≠ .pointer none ∧ x ≠ .nilIface ∧ x ≠ .nilFunc ∧ ∀ nm f c, x ≠ .func (.method nm) f c) := by
  unfold nilCheckOp at h
  split at h
  · injection h with h; subst h; obtain ⟨_, _, rfl, _⟩ := hx.inv_ptr; exact ⟨hx, by simp, by simp, by simp, by simp⟩
  · injection h with h; subst h; obtain ⟨_, _, _, rfl, _⟩ := hx.inv_eptr; exact ⟨hx, by simp, by simp, by simp, by simp⟩
  · injection h with h; subst h; obtain ⟨_, _, rfl, _⟩ := hx.inv_fn; exact ⟨hx, by simp, by simp, by simp, by simp⟩
  · injection h with h; subst h; obtain ⟨_, rfl, _⟩ := hx.inv_yield; exact ⟨hx, by simp, by simp, by simp, by simp⟩
  · injection h with h; subst h; obtain ⟨_, rfl, _⟩ := hx.inv_iface; exact ⟨hx, by simp, by simp, by simp, by simp⟩
  · cases h

theorem closeAll_rel {cs ds : List AV} {arr : Array Value} (h : closeAll cs = some ds) (hl : arr.size = cs.length) (hcell : ∀ c, c ∈ cs → c.isCell = true) (hR : ∀ i (hi : i < cs.length), Rel G k nl cs[i] (arr.getD i Go.undef)) :
    ds.length = cs.length ∧ (∀ c, c ∈ ds → c.isCell = true) ∧ ∀ i (hi : i < ds.length), RelC G.I ds[i] (arr.getD i Go.undef) := by
  let _ := hl
  obtain ⟨h1, h2⟩ := closeAll_spec h
  refine ⟨h1, fun c hc => ?_, fun i hi => (hR i (by omega)).close (h2 i (by omega) hi)⟩
  obtain ⟨i, hi, rfl⟩ := List.getElem_of_mem hc
  exact close_isCell (h2 i (by omega) hi) (hcell _ (List.getElem_mem _))

theorem iface_sound {t : TypeId} {a v : AV} {x : Value} (hx : Rel G k nl a x) (h : ifaceOp t a = some v) : Rel G k nl v (.iface t x) := by
  unfold ifaceOp at h
  split at h
  · rename_i cs
    obtain ⟨arr, rfl, hl, hcell, hR⟩ := hx.inv_agg
    cases hc : closeAll cs with
    | none => rw [hc] at h; cases h
    | some ds =>
      rw [hc] at h
      injection h with h
      subst h
      obtain ⟨h1, h2, h3⟩ := closeAll_rel hc hl hcell hR
      exact .cl (.iface (.agg (by rw [hl, h1]) h2 h3))
  · split at h
    · injection h with h
      subst h
      exact .cl (.iface (hx.closed1 (by assumption)))
    · cases h

theorem mkFn_sound {f : FuncId} {first caps : List Operand} {af ac : List AOpd} {ρ : Nat → AV} {a : Act} (hR : TmpsRel G k nl ρ a) (hf : mapO compOpd first = some af) (hc : mapO compOpd caps = some ac) (hcl : (af.map (evalT ρ)).all AV.isClosedV = true) :
    Rel G k nl (.fn f (af.map (evalT ρ)) (ac.map (evalT ρ))) (.func (.func f) (first.toArray.map a.eval) (caps.toArray.map a.eval)) := by
  obtain ⟨l1, h1⟩ := mapO_spec hf
  obtain ⟨l2, h2⟩ := mapO_spec hc
  refine .fn (by simp [l1]) (by simp [l2]) (fun i hi => ?_) (fun i hi => ?_)
  · have hi' : i < af.length := by simpa using hi
    have hi'' : i < first.length := by omega
    have := opd_rel (h1 i hi'' hi') hR
    have hcl' : (evalT ρ af[i]).isClosedV = true := List.all_eq_true.1 hcl _ (List.mem_map_of_mem (List.getElem_mem hi'))
    have e : (first.toArray.map a.eval).getD i Go.undef = a.eval first[i] := by simp [Array.getD, hi'']
    rw [e]
    simp only [List.getElem_map]
    exact this.closedV hcl'
  · have hi' : i < ac.length := by simpa using hi
    have hi'' : i < caps.length := by omega
    have := opd_rel (h2 i hi'' hi') hR
    have e : (caps.toArray.map a.eval).getD i Go.undef = a.eval caps[i] := by simp [Array.getD, hi'']
    rw [e]
    simpa using this

theorem field_sound {t : TypeId} {fs : Array Field} {f : Field} {i n : Nat} {g : Bool} {a v : AV} {x : Value} (ht : P.underlying t = some (.struct fs)) (hf : fs[i]? = some f) (hg : isAggP P f.type = some g) (hn : sizeP P f.type = some n) (hx : Rel G k nl a x)
    (h : fieldOp g n f.offset a = some v) : ∃ z, (Instr.field t x i).run P w = .ok z w ∧ Rel G k nl v z := by
  unfold fieldOp at h
  split at h
  · rename_i cs
    obtain ⟨arr, rfl, hl, hcell, hR⟩ := hx.inv_agg
    rcases part_rel (f := fun i => arr.getD i Go.undef) h hcell hR with ⟨rfl, hle, hv⟩ | ⟨rfl, hlt, hv⟩
    · refine ⟨_, ?_, hv⟩
      simp only [Instr.field, Sem.run_bind, run_underlying ht, Result.andThen_ok, hf, asAgg, Sem.run_pure, Go.part, isAgg_run hg, if_true, sizeOf_run hn]
      congr 2
      apply Array.ext
      · simp; omega
      · intro j h1 h2
        simp at h1 h2 ⊢
        have : f.offset + j < arr.size := by omega
        simp [Array.getD, this]
    · refine ⟨_, ?_, hv⟩
      have : f.offset < arr.size := by omega
      simp only [Instr.field, Sem.run_bind, run_underlying ht, Result.andThen_ok, hf, asAgg, Sem.run_pure, Go.part, isAgg_run hg, Bool.false_eq_true, if_false]
      simp [Array.getD, this]
  · cases h

theorem extract_sound {i : Nat} {a v : AV} {x : Value} (hx : Rel G k nl a x) (h : extractOp i a = some v) : ∃ z, (Instr.extract x i).run P w = .ok z w ∧ Rel G k nl v z := by
  unfold extractOp at h
  split at h
  · rename_i vs
    obtain ⟨arr, rfl, hl, hR⟩ := hx.inv_tuple
    obtain ⟨h1, h2⟩ := List.getElem?_eq_some_iff.1 h
    have := hR i h1
    rw [h2] at this
    refine ⟨_, ?_, this⟩
    have hi : i < arr.size := by omega
    simp [Instr.extract, hi, Array.getD]
  · cases h

theorem len_sound {t : TypeId} {ty : TypeId} {str : Bool} {a v : AV} {x : Value} (ht : (str = false ∧ ∃ e, P.underlying t = some (.slice e)) ∨ (str = true ∧ P.underlying t = some .string)) (hx : Rel G k nl a x) (h : lenOp str a = some v) :
    ∃ z, (Builtin.len_ #[t] ty #[x]).run P w = .ok z w ∧ Rel G k nl v z := by
  unfold lenOp at h
  rcases ht with ⟨rfl, e, ht⟩ | ⟨rfl, ht⟩
  · split at h
    · injection h with h
      subst h
      rcases hx.inv_slice with ⟨_, rfl, rfl⟩ | ⟨_, p, cap, rfl, _⟩
      · exact ⟨_, by simp [Builtin.len_, run_underlying ht, goInt], .val _ rfl⟩
      · exact ⟨_, by simp [Builtin.len_, run_underlying ht, goInt], .val _ rfl⟩
    · injection h with h
      subst h
      obtain ⟨blk, gr, rfl, _⟩ := hx.inv_rsl
      exact ⟨_, by simp [Builtin.len_, run_underlying ht, goInt], .val _ rfl⟩
    · cases h
    · cases h
  · split at h
    · cases h
    · cases h
    · injection h with h
      subst h
      obtain rfl := hx.inv_v
      exact ⟨_, by simp [Builtin.len_, run_underlying ht, goInt], .val _ rfl⟩
    · cases h

/-! ### Slices -/

theorem asNat_rel {x : AV} {y : Value} {m n : Nat} (hx : Rel G k nl x y) (h : asNat x m = some n) : ∃ kd z, y = .int kd z ∧ 0 ≤ z ∧ z ≤ m ∧ z.toNat = n := by
  unfold asNat at h
  split at h
  · obtain rfl := hx.inv_v
    split at h
    · rename_i hc
      injection h with h
      exact ⟨_, _, rfl, hc.1, hc.2, h⟩
    · cases h
  · cases h

theorem asNat_le {x : AV} {m n : Nat} (h : asNat x m = some n) : n ≤ m := by
  unfold asNat at h
  split at h
  · split at h
    · injection h with h; omega
    · cases h
  · cases h

/-- An operand that may lack. -/
def OptRel (G : Ghost) (k nl : Nat) : Option AV → Option Value → Prop
  | none, none => True
  | some x, some y => Rel G k nl x y
  | _, _ => False

theorem bounds_run {isSlice : Bool} {len cap : Nat} {lo hi : Option AV} {lo' hi' : Option Value} {h l : Nat} (hlo : OptRel G k nl lo lo') (hhi : OptRel G k nl hi hi')
    (eh : hiOf hi false cap len = some h) (el : loOf lo h = some l) :
    (Instr.sliceBounds isSlice len cap lo' hi' none).run P w = .ok (l, h, cap) w := by
  cases hi with
  | none =>
    cases hi' with
    | some => exact hhi.elim
    | none =>
      simp only [hiOf, Bool.false_eq_true, if_false, Option.some.injEq] at eh
      subst eh
      cases lo with
      | none =>
        cases lo' with
        | some => exact hlo.elim
        | none =>
          simp only [loOf, Option.some.injEq] at el
          subst el
          simp [Instr.sliceBounds]
      | some x =>
        cases lo' with
        | none => exact hlo.elim
        | some y =>
          obtain ⟨kd, z, rfl, z0, z1, rfl⟩ := asNat_rel hlo el
          simp [Instr.sliceBounds, run_sliceBound w kd z _ _ z0 z1]
  | some q =>
    cases hi' with
    | none => exact hhi.elim
    | some p =>
      obtain ⟨kd, z, rfl, z0, z1, rfl⟩ := asNat_rel hhi eh
      cases lo with
      | none =>
        cases lo' with
        | some => exact hlo.elim
        | none =>
          simp only [loOf, Option.some.injEq] at el
          subst el
          simp [Instr.sliceBounds, run_sliceBound w kd z _ _ z0 z1]
      | some x =>
        cases lo' with
        | none => exact hlo.elim
        | some y =>
          obtain ⟨kd', z', rfl, z0', z1', rfl⟩ := asNat_rel hlo el
          simp [Instr.sliceBounds, run_sliceBound w kd z _ _ z0 z1, run_sliceBound w kd' z' _ _ z0' z1']

theorem bounds_run3 {isSlice : Bool} {len cap : Nat} {lo : Option AV} {hi mx : AV} {lo' : Option Value} {hi' mx' : Value} {m h l : Nat} (hlo : OptRel G k nl lo lo') (hhi : Rel G k nl hi hi') (hmx : Rel G k nl mx mx') (em : asNat mx cap = some m)
    (eh : asNat hi m = some h) (el : loOf lo h = some l) :
    (Instr.sliceBounds isSlice len cap lo' (some hi') (some mx')).run P w = .ok (l, h, m) w := by
  obtain ⟨km, zm, rfl, zm0, zm1, rfl⟩ := asNat_rel hmx em
  obtain ⟨kd, z, rfl, z0, z1, rfl⟩ := asNat_rel hhi eh
  cases lo with
  | none =>
    cases lo' with
    | some => exact hlo.elim
    | none =>
      simp only [loOf, Option.some.injEq] at el
      subst el
      simp [Instr.sliceBounds, run_sliceBound w km zm _ _ zm0 zm1, run_sliceBound w kd z _ _ z0 z1]
  | some x =>
    cases lo' with
    | none => exact hlo.elim
    | some y =>
      obtain ⟨kd', z', rfl, z0', z1', rfl⟩ := asNat_rel hlo el
      simp [Instr.sliceBounds, run_sliceBound w km zm _ _ zm0 zm1, run_sliceBound w kd z _ _ z0 z1, run_sliceBound w kd' z' _ _ z0' z1']

/-- A part of a slice that is only read. -/
theorem SliceC.cut {I : IMap} {es : Nat} {xs : List (List AV)} {a : Addr} {cap l h : Nat} (hx : SliceC I es xs a cap) (hl : l ≤ h) (hh : h ≤ xs.length) (m : Nat) (hm : h ≤ m) (hmc : m ≤ cap) (q : Addr) (hq : q = if m = l then a else a.add (l * es)) :
    SliceC I es ((xs.take h).drop l) q (m - l) := by
  cases hx with
  | empty =>
    have h0 : h = 0 := by simpa using hh
    have l0 : l = 0 := by omega
    have m0 : m = 0 := by omega
    subst h0 l0 m0
    exact .empty (.inl rfl)
  | @slice _ _ _ blk off _ f ho hc hes hcell hI hR =>
    have hlen : ((xs.take h).drop l).length = h - l := by simp; omega
    have hget : ∀ i (hi : i < ((xs.take h).drop l).length), ((xs.take h).drop l)[i] = xs[l + i]'(by omega) := fun i hi => by simp
    have hmem : ∀ r, r ∈ (xs.take h).drop l → r ∈ xs := fun r hr => List.mem_of_mem_take (List.mem_of_mem_drop hr)
    have e2 : q = ⟨blk, (if m = l then off else off + l * es), none⟩ := by
      rw [hq]
      split
      · rfl
      · rw [addr_add]
    rw [e2]
    refine RelC.slice (fun i j => f (l + i) j) (.inl rfl) (by omega) (fun r hr => hes r (hmem r hr)) (fun r hr => hcell r (hmem r hr)) (fun i hi j hj => ?_) (fun i hi j hj => ?_)
    · have hne : m ≠ l := by omega
      have hi' : l + i < xs.length := by omega
      have hj' : j < (xs[l + i]).length := by simp only [hget i hi] at hj; exact hj
      rw [if_neg hne]
      have := hI (l + i) hi' j hj'
      rw [Nat.add_mul] at this
      rw [← this]
      congr 1
      omega
    · have hi' : l + i < xs.length := by omega
      have hj' : j < (xs[l + i]).length := by simp only [hget i hi] at hj; exact hj
      have := hR (l + i) hi' j hj'
      simp only [hget i hi]
      exact this

end
end Go.Ax
