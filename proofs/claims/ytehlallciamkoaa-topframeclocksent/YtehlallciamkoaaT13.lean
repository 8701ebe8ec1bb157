/- A part of the proof. -/
import Derived.Test.YtehlallciamkoaaT12
namespace Go.Ax.Sx.Ck
open Go.Ax
set_option linter.unusedSimpArgs false
set_option linter.unusedVariables false
set_option maxRecDepth 100000
def pkC (i : Nat) (p : Pr) : Pk := ⟨1, i, ⟨.full, 1, [p.cnt / 256, p.cnt % 256]⟩⟩
def pksC (l : List Pr) : List Pk := l.mapIdx pkC
theorem pksC_len {l : List Pr} : (pksC l).length = l.length := by simp [pksC]
theorem pksC_get {l : List Pr} {i : Nat} {q : Pk} (h : (pksC l)[i]? = some q) : ∃ p, l[i]? = some p ∧ q = pkC i p := by
 unfold pksC at h
 rw [List.getElem?_mapIdx] at h
 cases hp : l[i]? with
 | none => rw [hp] at h; cases h
 | some p => rw [hp] at h; exact ⟨p, rfl, (Option.some.inj h).symm⟩
theorem pksC_ok {l : List Pr} (hl : l.length ≤ 12) (h : ∀ p ∈ l, 0 ≤ p.cnt ∧ p.cnt ≤ 65535) : ∀ q ∈ pksC l, q.Ok ∧ q.data.l.length = 2 := by
 intro q hq
 obtain ⟨i, hi⟩ := List.getElem?_of_mem hq
 obtain ⟨p, hp, rfl⟩ := pksC_get hi
 have hil : i < l.length := (List.getElem?_eq_some_iff.1 hp).1
 have := h p (List.mem_of_getElem? hp)
 refine ⟨⟨⟨.inr rfl, .inr (.inl rfl)⟩, by show (0 : Int) ≤ 1; omega, by show (1 : Int) ≤ 255; omega, by show (0 : Int) ≤ (i : Int); omega, by show (i : Int) ≤ 255; omega, by show 2 ≤ 40; omega, ?_⟩, rfl⟩
 intro x hx
 have hx' : x = p.cnt / 256 ∨ x = p.cnt % 256 := by simpa [pkC] using hx
 omega
theorem pksB_len5 : ∀ {l : List Pk}, (∀ q ∈ l, q.data.l.length = 2) → (pksB l).length = 5 * l.length
 | [], _ => rfl
 | q :: r, h => by
  have h1 : pksB (q :: r) = pkB q ++ pksB r := rfl
  rw [h1, List.length_append, pkB_len, h q (by simp), pksB_len5 (fun x hx => h x (by simp [hx])), List.length_cons]; omega
theorem fill_bound {L : Nat} {l : List Pk} (hL : 4 ≤ L) : (pksB (fillP L l)).length ≤ (pksB l).length + 2 + L := by
 unfold fillP
 split
 ·omega
 ·rename_i h
  rw [pksB_app, pksB_one, List.length_append, pkB_len]
  show (pksB l).length + (3 + (List.replicate (roomN L (pksB l).length) (0 : Int)).length) ≤ _
  have := Nat.mod_lt (pksB l).length (show 0 < L by omega)
  rw [List.length_replicate]
  unfold roomN
  split
  ·omega
  ·split <;> omega
theorem framesC {L : Nat} {l : List Pr} (hL : 4 ≤ L) (hl : l.length ≤ 12) (h1 : 1 ≤ l.length) (h : ∀ p ∈ l, 0 ≤ p.cnt ∧ p.cnt ≤ 65535) : 1 ≤ framesN L (pksC l) ∧ framesN L (pksC l) ≤ 16 := by
 have hk := pksC_ok hl h
 have h5 := pksB_len5 (fun q hq => (hk q hq).2)
 rw [pksC_len] at h5
 have hb := fill_bound (l := pksC l) hL
 have hm := framesN_mul (l := pksC l) hL
 have hle : (pksB (pksC l)).length ≤ (pksB (fillP L (pksC l))).length := by
  unfold fillP
  split
  ·exact Nat.le_refl _
  ·rw [pksB_app, List.length_append]; omega
 generalize framesN L (pksC l) = n at *
 constructor
 ·rcases Nat.eq_zero_or_pos n with h0 | h0
  ·rw [h0, Nat.zero_mul] at hm; omega
  ·exact h0
 ·rcases Nat.lt_or_ge 16 n with h0 | h0
  ·have h17 : 17 * L ≤ n * L := Nat.mul_le_mul_right L h0
   omega
  ·exact h0
theorem packed_get {L : Nat} {l : List Pk} {k : Nat} (hk : k < framesN L l) : (packedL L l)[k]? = some (mkF L (startsL (fillP L l) (fillP L l).length) k (((pksB (fillP L l)).drop (k * L)).take L)) := by
 unfold packedL frL
 rw [List.getElem?_mapIdx]
 have : (chunksL L (pksB (fillP L l)) (framesN L l))[k]? = some (((pksB (fillP L l)).drop (k * L)).take L) := by
  unfold chunksL
  rw [List.getElem?_map, List.getElem?_range hk]; rfl
 rw [this]; rfl
theorem packed_len {L : Nat} {l : List Pk} : (packedL L l).length = framesN L l := by unfold packedL; rw [frL_len, chunksL_len]
theorem firstOf_rg {L : Nat} {st : List Int} {k : Nat} : (0 ≤ firstOf L st k ∧ firstOf L st k < (L : Int)) ∨ firstOf L st k = 255 := by
 unfold firstOf
 cases hx : st[bsI st ((k * L : Nat) : Int)]? with
 | none => exact .inr rfl
 | some x =>
  simp only
  have := bsI_ge hx
  split
  ·rename_i h; left; omega
  ·exact .inr rfl
theorem bytes_pks : ∀ {l : List Pk}, (∀ p ∈ l, p.Ok) → ByteL (pksB l)
 | [], _, x, hx => by cases hx
 | p :: r, h, x, hx => by
  have hp := h p (by simp)
  have h1 : pksB (p :: r) = pkB p ++ pksB r := rfl
  rw [h1] at hx
  rcases List.mem_append.1 hx with hx | hx
  ·unfold pkB at hx
   rcases List.mem_append.1 hx with hx | hx
   ·have hl := hp.len
    have := hp.id0; have := hp.id1; have := hp.cnt0; have := hp.cnt1
    have hx' : x = p.id ∨ x = p.cnt ∨ x = (p.data.l.length : Int) := by simpa using hx
    omega
   ·exact hp.bytes x hx
  ·exact bytes_pks (fun q hq => h q (by simp [hq])) x hx
theorem packed_ok {L : Nat} {C : Int} {l : List Pk} (hL : 4 ≤ L) (hL2 : L ≤ 24) (hC : 1 ≤ C) (hl : ∀ p ∈ l, p.Ok) {k : Nat} (hk : k < framesN L l) (h64 : framesN L l ≤ 64) {f : Fm} (hf : (packedL L l)[k]? = some f) : f.Ok L C ∧ f.ch = 0 ∧ f.cnt = (k : Int) ∧ f.first = firstOf L (startsL (fillP L l) (fillP L l).length) k ∧ f.data.l = ((pksB (fillP L l)).drop (k * L)).take L := by
 rw [packed_get hk] at hf
 have e : mkF L (startsL (fillP L l) (fillP L l).length) k (((pksB (fillP L l)).drop (k * L)).take L) = f := Option.some.inj hf
 have hm := framesN_mul (l := l) hL
 have hkl : k * L + L ≤ framesN L l * L := by
  have := Nat.mul_le_mul_right L (show k + 1 ≤ framesN L l from hk)
  rwa [Nat.add_mul, Nat.one_mul] at this
 have hb := bytes_pks (fillP_ok hL2 hl)
 have hmod : k % 64 = k := Nat.mod_eq_of_lt (by omega)
 subst e
 refine ⟨⟨cpS_ok, by show (0 : Int) ≤ 0; omega, by show (0 : Int) < C; omega, ?_, ?_, firstOf_rg, ?_, ?_⟩, rfl, ?_, rfl, cpS_l⟩
 ·show (0 : Int) ≤ ((k % 64 : Nat) : Int); omega
 ·show ((k % 64 : Nat) : Int) ≤ 63; omega
 ·show ((cpS 1 _).l.length : Int) = L
  rw [cpS_l, List.length_take, List.length_drop]; omega
 ·show ByteL (cpS 1 _).l
  rw [cpS_l]
  intro x hx
  exact hb x (List.mem_of_mem_drop (List.mem_of_mem_take hx))
 ·show ((k % 64 : Nat) : Int) = k
  rw [hmod]
theorem came_ok {L : Nat} {C : Int} {l : List Pk} (hL : 4 ≤ L) (hL2 : L ≤ 24) (hC : 1 ≤ C) (hl : ∀ p ∈ l, p.Ok) (h64 : framesN L l ≤ 16) : ∀ {k : Nat} {fs : List Fm}, Came L (fillP L l) k fs → k ≤ framesN L l → (∀ f ∈ fs, f.Ok L C ∧ f.cnt < (k : Int) ∧ f.ch = 0) ∧ fs.length ≤ k ∧ Asc fs := by
 intro k fs h
 induction h with
 | nil => intro _; exact ⟨fun f hf => (by cases hf), Nat.le_refl _, fun i a b ha => (by cases ha)⟩
 | skip h ih =>
  intro hk
  obtain ⟨a1, a2, a3⟩ := ih (by omega)
  exact ⟨fun f hf => ⟨(a1 f hf).1, by have := (a1 f hf).2.1; omega, (a1 f hf).2.2⟩, by omega, a3⟩
 | @take k fs f h c1 c2 c3 c4 c5 ih =>
  intro hk
  obtain ⟨a1, a2, a3⟩ := ih (by omega)
  have hg := packed_get (l := l) (k := k) (show k < framesN L l by omega)
  obtain ⟨o1, _, _, o4, o5⟩ := packed_ok (C := C) hL hL2 hC hl (show k < framesN L l by omega) (by omega) hg
  refine ⟨?_, by simp; omega, ?_⟩
  ·intro g hg
   rcases List.mem_append.1 hg with hg | hg
   ·exact ⟨(a1 g hg).1, by have := (a1 g hg).2.1; omega, (a1 g hg).2.2⟩
   ·have e : g = f := by simpa using hg
    subst e
    refine ⟨⟨c5, by omega, by omega, by omega, by omega, ?_, ?_, ?_⟩, by omega, c1⟩
    ·rw [c3]; exact firstOf_rg
    ·have := o1.len; rw [o5] at this; rw [c4]; exact this
    ·have := o1.bytes; rw [o5] at this; rw [c4]; exact this
  ·intro i a b ha hb
   rcases Nat.lt_or_ge (i + 1) fs.length with h5 | h5
   ·rw [List.getElem?_append_left (by omega)] at ha
    rw [List.getElem?_append_left h5] at hb
    exact a3 i a b ha hb
   ·have hb' := (List.getElem?_eq_some_iff.1 hb).1
    rw [List.length_append, List.length_singleton] at hb'
    have e : i + 1 = fs.length := by omega
    rw [List.getElem?_append_left (by omega)] at ha
    rw [e, List.getElem?_append_right (Nat.le_refl _), Nat.sub_self] at hb
    have eb : f = b := Option.some.inj hb
    have := (a1 a (List.mem_of_getElem? ha)).2.1
    rw [← eb, c2]; exact this
theorem came_row {L : Nat} {C : Int} {l : List Pk} (hL : 4 ≤ L) (hL2 : L ≤ 24) (hC : 1 ≤ C) (hl : ∀ p ∈ l, p.Ok) (h64 : framesN L l ≤ 16) {fs : List Fm} (h : Came L (fillP L l) (framesN L l) fs) : (∀ f ∈ fs, f.Ok L C) ∧ fs.length ≤ 16 ∧ Row0 fs := by
 obtain ⟨a1, a2, a3⟩ := came_ok hL hL2 hC hl h64 h (Nat.le_refl _)
 refine ⟨fun f hf => (a1 f hf).1, by omega, ⟨fun f hf => (a1 f hf).2.2, fun f hf => (a1 f hf).1.cnt0, fun f hf => ?_, a3, fun f hf => (a1 f hf).1.data⟩⟩
 have := (a1 f hf).2.1; omega
def CarryP (ps : List Pr) (q : Pk) (p : Pr) : Prop := q.data.ok 1 ∧ q.data.l = [p.cnt / 256, p.cnt % 256] ∧ ∃ k : Nat, q.cnt = (k : Int) ∧ ps[k]? = some p
theorem em_prs {L : Nat} {ps : List Pr} (ha : AscP ps) : ∀ {t : Nat} {out : List Pk}, Em (fillP L (pksC ps)) t out → ∃ prs : List Pr, prs.length = out.length ∧ prs.length ≤ ps.length ∧ AscP prs ∧ (∀ p ∈ prs, ∃ k, k < t ∧ ps[k]? = some p) ∧ ∀ (m : Nat) (q : Pk), out[m]? = some q → ∃ p, prs[m]? = some p ∧ CarryP ps q p := by
 suffices H : ∀ {t : Nat} {out : List Pk}, Em (fillP L (pksC ps)) t out → ∃ prs : List Pr, prs.length = out.length ∧ (prs.length ≤ t ∧ prs.length ≤ ps.length) ∧ AscP prs ∧ (∀ p ∈ prs, ∃ k, k < t ∧ ps[k]? = some p) ∧ ∀ (m : Nat) (q : Pk), out[m]? = some q → ∃ p, prs[m]? = some p ∧ CarryP ps q p by
  intro t out h
  obtain ⟨prs, h1, h2, h3, h4, h5⟩ := H h
  exact ⟨prs, h1, h2.2, h3, h4, h5⟩
 intro t out h
 induction h with
 | nil => exact ⟨[], rfl, ⟨Nat.zero_le _, Nat.zero_le _⟩, (fun i a b ha => by cases ha), (fun p hp => by cases hp), (fun m q hq => by cases hq)⟩
 | @snoc b i b' out p q h h1 h2 h3 h4 h5 ih =>
  obtain ⟨prs, a1, ⟨a2, a2'⟩, a3, a4, a5⟩ := ih
  have hq : ∃ pr, ps[i]? = some pr ∧ q = pkC i pr := by
   unfold fillP at h3
   split at h3
   ·exact pksC_get h3
   ·rcases Nat.lt_or_ge i (pksC ps).length with h6 | h6
    ·rw [List.getElem?_append_left h6] at h3
     exact pksC_get h3
    ·exfalso
     rw [List.getElem?_append_right h6] at h3
     have hm := List.mem_of_getElem? h3
     have e : q = idle (roomN L (pksB (pksC ps)).length) := by simpa using hm
     apply h5; rw [e]; rfl
  obtain ⟨pr, hp, rfl⟩ := hq
  have hil := (List.getElem?_eq_some_iff.1 hp).1
  refine ⟨prs ++ [pr], by simp [a1], ⟨by simp; omega, by simp; omega⟩, ?_, ?_, ?_⟩
  ·intro j x y hx hy
   rcases Nat.lt_or_ge (j + 1) prs.length with h6 | h6
   ·rw [List.getElem?_append_left (by omega)] at hx
    rw [List.getElem?_append_left h6] at hy
    exact a3 j x y hx hy
   ·have hb' := (List.getElem?_eq_some_iff.1 hy).1
    rw [List.length_append, List.length_singleton] at hb'
    have e : j + 1 = prs.length := by omega
    rw [List.getElem?_append_left (by omega)] at hx
    rw [e, List.getElem?_append_right (Nat.le_refl _), Nat.sub_self] at hy
    have ey : pr = y := Option.some.inj hy
    subst ey
    obtain ⟨k, k1, k2⟩ := a4 x (List.mem_of_getElem? hx)
    exact asc_lt ha (show k < i by omega) k2 hp
  ·intro x hx
   rcases List.mem_append.1 hx with hx | hx
   ·obtain ⟨k, k1, k2⟩ := a4 x hx
    exact ⟨k, by omega, k2⟩
   ·have e : x = pr := by simpa using hx
    exact ⟨i, h2, by rw [e]; exact hp⟩
  ·intro m x hx
   rcases Nat.lt_or_ge m out.length with h6 | h6
   ·rw [List.getElem?_append_left h6] at hx
    obtain ⟨y, y1, y2⟩ := a5 m x hx
    exact ⟨y, by rw [List.getElem?_append_left (by omega)]; exact y1, y2⟩
   ·have hb' := (List.getElem?_eq_some_iff.1 hx).1
    rw [List.length_append, List.length_singleton] at hb'
    have e : m = out.length := by omega
    rw [e, List.getElem?_append_right (Nat.le_refl _), Nat.sub_self] at hx
    have ex : p = x := Option.some.inj hx
    subst ex
    refine ⟨pr, by rw [e, ← a1, List.getElem?_append_right (Nat.le_refl _), Nat.sub_self]; rfl, h4.ok, h4.data, i, h4.cnt, hp⟩
theorem extracted_law {L : Nat} {ps : List Pr} (hL : 4 ≤ L) (ha : AscP ps) (hn : ps.length ≤ 12) {fs : List Fm} (h : Came L (fillP L (pksC ps)) (framesN L (pksC ps)) fs) :
  ∃ prs : List Pr, prs.length = (extracted fs).length ∧ prs.length ≤ ps.length ∧ AscP prs ∧ (∀ p ∈ prs, p ∈ ps) ∧ ∀ (m : Nat) (q : Pk), (extracted fs)[m]? = some q → ∃ p, prs[m]? = some p ∧ CarryP ps q p := by
 have hF : (fillP L (pksC ps)).length ≤ 20000 := by
  have := fillP_len (L := L) (l := pksC ps)
  rw [pksC_len] at this; omega
 obtain ⟨K, t, _, _, _, h4, _⟩ := came_inv (framesN_mul hL) hF h (Nat.le_refl _)
 obtain ⟨prs, a1, a2, a3, a4, a5⟩ := em_prs ha h4
 exact ⟨prs, a1, a2, a3, fun p hp => by obtain ⟨k, _, hk⟩ := a4 p hp; exact List.mem_of_getElem? hk, a5⟩
end Go.Ax.Sx.Ck

namespace Go.Ax.Sx.Ck
open Go.Ax
set_option linter.unusedSimpArgs false
set_option linter.unusedVariables false
set_option maxRecDepth 100000
def rS (l : List Pr) (k : Nat) : Bool × (Int × Int) × (Int × Int) := (prsOf l k).foldl stepRt (false, (0, 0), (0, 0))
def rI (l : List Pr) (k : Nat) (q : Pr) (j : Nat) : Bool × (Int × Int) × (Int × Int) := ((l.take j).map fun p => (q, p)).foldl stepRt (rS l k)
theorem rI_0 {l : List Pr} {k : Nat} {q : Pr} : rI l k q 0 = rS l k := rfl
theorem rI_s {l : List Pr} {k j : Nat} {q p : Pr} (h : l[j]? = some p) : rI l k q (j + 1) = stepRt (rI l k q j) (q, p) := by
 unfold rI
 rw [take_get h, List.map_append, List.foldl_append]; rfl
theorem rI_e {l : List Pr} {k : Nat} {q : Pr} (h : l[k]? = some q) : rI l k q k = rS l (k + 1) := by
 unfold rI rS
 rw [prsOf_s h, List.foldl_append]
structure RtB (S : Bool × (Int × Int) × (Int × Int)) : Prop where
 a1 : -1000000000000 ≤ S.2.1.1
 a2 : S.2.1.1 ≤ 1000000000000
 b1 : 0 ≤ S.2.1.2
 b2 : S.2.1.2 ≤ 1000000
 c1 : -1000000000000 ≤ S.2.2.1
 c2 : S.2.2.1 ≤ 1000000000000
 d1 : 0 ≤ S.2.2.2
 d2 : S.2.2.2 ≤ 1000000
theorem slow_b {q p : Pr} (hq : q.Ok) (hp : p.Ok) (h : p.cnt < q.cnt) : (-1000000000000 ≤ (slowF q p).1 ∧ (slowF q p).1 ≤ 1000000000000) ∧ 0 ≤ (slowF q p).2 ∧ (slowF q p).2 ≤ 1000000 := by
 have h1 := hq.le; have h2 := hq.l0; have h3 := hq.h1; have h4 := hp.le; have h5 := hp.l0; have h6 := hp.h1; have h7 := hq.c1; have h8 := hp.c0
 have a := lowA_b (num := q.lo - p.hi) (D := dC q p) (A := 1000000000000) (by omega) (by omega)
 have b := lowB_b (num := q.lo - p.hi) (D := dC q p) (by unfold dC; omega)
 have c : dC q p ≤ 1000000 := by unfold dC; omega
 refine ⟨a, ?_, ?_⟩
 ·show (0 : Int) ≤ (lowB (q.lo - p.hi) (dC q p) : Nat); omega
 ·show ((lowB (q.lo - p.hi) (dC q p) : Nat) : Int) ≤ 1000000; omega
theorem fast_b {q p : Pr} (hq : q.Ok) (hp : p.Ok) (h : p.cnt < q.cnt) : (-1000000000000 ≤ (fastF q p).1 ∧ (fastF q p).1 ≤ 1000000000000) ∧ 0 ≤ (fastF q p).2 ∧ (fastF q p).2 ≤ 1000000 := by
 have h1 := hq.le; have h2 := hq.l0; have h3 := hq.h1; have h4 := hp.le; have h5 := hp.l0; have h6 := hp.h1; have h7 := hq.c1; have h8 := hp.c0
 have a := lowA_b (num := q.hi - p.lo) (D := dC q p) (A := 1000000000000) (by omega) (by omega)
 have b := lowB_b (num := q.hi - p.lo) (D := dC q p) (by unfold dC; omega)
 have c : dC q p ≤ 1000000 := by unfold dC; omega
 refine ⟨a, ?_, ?_⟩
 ·show (0 : Int) ≤ (lowB (q.hi - p.lo) (dC q p) : Nat); omega
 ·show ((lowB (q.hi - p.lo) (dC q p) : Nat) : Int) ≤ 1000000; omega
theorem rtB_step {S : Bool × (Int × Int) × (Int × Int)} {q p : Pr} (hS : RtB S) (hq : q.Ok) (hp : p.Ok) (h : p.cnt < q.cnt) : RtB (stepRt S (q, p)) := by
 obtain ⟨a1, a2, b1, b2, c1, c2, d1, d2⟩ := hS
 obtain ⟨⟨s1, s2⟩, s3, s4⟩ := slow_b hq hp h
 obtain ⟨⟨f1, f2⟩, f3, f4⟩ := fast_b hq hp h
 have e1 : (stepRt S (q, p)).2.1 = slowF q p ∨ (stepRt S (q, p)).2.1 = S.2.1 := by unfold stepRt; dsimp only; split; exact .inl rfl; exact .inr rfl
 have e2 : (stepRt S (q, p)).2.2 = fastF q p ∨ (stepRt S (q, p)).2.2 = S.2.2 := by unfold stepRt; dsimp only; split; exact .inl rfl; exact .inr rfl
 generalize stepRt S (q, p) = T at *
 rcases e1 with e1 | e1 <;> rcases e2 with e2 | e2 <;> constructor <;> first | (rw [e1]; assumption) | (rw [e2]; assumption)
theorem rtB_rS {l : List Pr} (ho : ∀ p ∈ l, p.Ok) (ha : AscP l) {k : Nat} : RtB (rS l k) := by
 have H : ∀ (M : List (Pr × Pr)) (S : Bool × (Int × Int) × (Int × Int)), RtB S → (∀ y ∈ M, y ∈ prsOf l k) → RtB (M.foldl stepRt S) := by
  intro M
  induction M with
  | nil => intro S h _; exact h
  | cons y M ih =>
   intro S h hM
   obtain ⟨i, j, h1, h2, h3, h4⟩ := mem_prs.1 (hM y (by simp))
   exact ih _ (rtB_step (q := y.1) (p := y.2) h (ho _ (List.mem_of_getElem? h3)) (ho _ (List.mem_of_getElem? h4)) (asc_lt ha h1 h4 h3)) (fun z hz => hM z (by simp [hz]))
 exact H _ _ ⟨by decide, by decide, by decide, by decide, by decide, by decide, by decide, by decide⟩ (fun y hy => hy)
theorem rtB_rI {l : List Pr} (ho : ∀ p ∈ l, p.Ok) (ha : AscP l) {k : Nat} {q : Pr} (hq : l[k]? = some q) : ∀ {j : Nat}, j ≤ k → RtB (rI l k q j) := by
 intro j
 induction j with
 | zero => intro _; exact rtB_rS ho ha
 | succ j ih =>
  intro h
  obtain ⟨p, hp⟩ := get_some (l := l) (k := j) (by have := (List.getElem?_eq_some_iff.1 hq).1; omega)
  rw [rI_s hp]
  exact rtB_step (ih (by omega)) (ho _ (List.mem_of_getElem? hq)) (ho _ (List.mem_of_getElem? hp)) (asc_lt ha (by omega) hp hq)
section
variable {Z R y a c e : List AV} {z : AV} {bt : List (List AV)}
theorem slot_c2 : slotL (Z :: R :: (bt ++ [y, [], []])) [] 2 (z :: e) = some (bt.length + 1 + 1 + 1, Z :: R :: (bt ++ [y, z :: e, []])) := by
 have := slot_last2 (bx := Z :: R :: (bt ++ [y])) (z := z) (r := e)
 simpa using this
theorem slot_c1 : slotL (Z :: R :: (bt ++ [y, a, []])) [] 1 (z :: e) = some (bt.length + 1 + 1 + 1 + 1, Z :: R :: (bt ++ [y, a, z :: e])) := by
 have := slot_last (bx := Z :: R :: (bt ++ [y, a])) (tk := []) (z := z) (r := e)
 simpa using this
end
section
variable {s : Sig} {Z R y : List AV} {a b c d : Int} {bt : List (List AV)}
theorem fill_c2 (hs : Ok s) : fillOp (s.push ⟨Z :: R :: (bt ++ [y, [I 0, I 0], [I 0, I 0]]), []⟩) 2 2 (.ptr s.acts.length (bt.length + 1 + 1 + 1) 0) (.agg [I a, I b]) = some (s.push ⟨Z :: R :: (bt ++ [y, [I a, I b], [I 0, I 0]]), []⟩) := by
 rw [fill_ptr, if_pos (by simp)]
 simp (maxSteps := 1000000) only [go_sem, hs, List.getElem?_cons_succ, List.set_cons_succ]
theorem fill_c1 (hs : Ok s) : fillOp (s.push ⟨Z :: R :: (bt ++ [y, [I a, I b], [I 0, I 0]]), []⟩) 1 2 (.ptr s.acts.length (bt.length + 1 + 1 + 1 + 1) 0) (.agg [I c, I d]) = some (s.push ⟨Z :: R :: (bt ++ [y, [I a, I b], [I c, I d]]), []⟩) := by
 rw [fill_ptr, if_pos (by simp)]
 simp (maxSteps := 1000000) only [go_sem, hs, List.getElem?_cons_succ, List.set_cons_succ]
end
end Go.Ax.Sx.Ck

namespace Go.Ax.Sx.Ck
open Go.Ax
set_option linter.unusedSimpArgs false
set_option linter.unusedVariables false
set_option maxRecDepth 100000
section
variable {s : Sig}
abbrev rtV (S : Bool × (Int × Int) × (Int × Int)) : List AV := [I S.2.1.1, I S.2.1.2, I S.2.2.1, I S.2.2.2]
theorem frame_rates {x : Sl Pr} (hs : Ok s) (hx : x.ok 3) (ho : ∀ p ∈ x.l, p.Ok) (ha : AscP x.l) (hl : x.l.length ≤ 1000) :
  callL AP (.fn 64) [x.v rowPr] s = some (.agg (rtV (ratesS x.l)), s) := by
 have key : ∀ (k : Nat) ρ m, k ≤ x.l.length → (ρ 0 = x.v rowPr ∧ ρ 2 = .ptr s.acts.length 0 0 ∧ ρ 3 = .ptr s.acts.length 1 0 ∧ ρ 4 = B (rS x.l k).1 ∧ ρ 12 = x.v rowPr ∧ ρ 13 = I x.l.length ∧ ρ 14 = I k ∧ ∃ bt, m = s.push ⟨[I 0, I 0, I 0, I 0] :: rtV (rS x.l k) :: bt, []⟩) →
   go AP f_frame_rates (.c (.loop b_frame_rates_l0) :: k_frame_rates_0) ⟨ρ, m⟩ = some (.agg (rtV (ratesS x.l)), s) := by
  refine loop_up x.l.length _ (fun _ => some (.agg (rtV (ratesS x.l)), s)) ?_ ?_
  ·rintro k ρ m hk ⟨g0, g2, g3, g4, g12, g13, g14, bt, rfl⟩ ih
   obtain ⟨q, hq⟩ := get_some hk
   have hqo := ho q (List.mem_of_getElem? hq)
   have hix := Sl.ix (f := rowPr) hx hq
   have hwk := wrap_succ hk (show (x.l.length : Int) < _ by omega)
   have he : x.e = 3 := by
    rcases hx.1 with h | h
    ·rw [h] at hk; simp at hk
    ·exact h
   obtain ⟨o', hsl⟩ := sl_to (o := x.o) (xs := x.l.map rowPr) (es := 3) (hi := k) (by rw [List.length_map]; omega)
   rw [← List.map_take] at hsl
   have inner : ∀ (j : Nat) ρ m, j ≤ k → (ρ 0 = x.v rowPr ∧ ρ 2 = .ptr s.acts.length 0 0 ∧ ρ 3 = .ptr s.acts.length 1 0 ∧ ρ 4 = B (rI x.l k q j).1 ∧ ρ 12 = x.v rowPr ∧ ρ 13 = I x.l.length ∧ ρ 14 = I k ∧ ρ 21 = .slice o' 3 ((x.l.take k).map rowPr) ∧ ρ 22 = I k ∧ ρ 23 = I j ∧ ∃ (bt : List (List AV)) (n : Nat), ρ 6 = .ptr s.acts.length (n + 1 + 1) 0 ∧ bt[n]? = some (rowPr q) ∧ m = s.push ⟨[I 0, I 0, I 0, I 0] :: rtV (rI x.l k q j) :: bt, []⟩) →
     go AP f_frame_rates (.c (.loop b_frame_rates_l1) :: k_frame_rates_1) ⟨ρ, m⟩ = some (.agg (rtV (ratesS x.l)), s) := by
    refine loop_up k _ (fun _ => some (.agg (rtV (ratesS x.l)), s)) ?_ ?_
    ·rintro j ρ m hj ⟨g0, g2, g3, g4, g12, g13, g14, g21, g22, g23, bt, n, g6, hn, rfl⟩ ih2
     obtain ⟨p, hp⟩ := get_some (l := x.l) (k := j) (by omega)
     have hpo := ho p (List.mem_of_getElem? hp)
     have hc := asc_lt ha hj hp hq
     have hix2 : indexAddrOp none 3 (.slice o' 3 ((x.l.take k).map rowPr)) (I (j : Int)) = some (.eptr (rowPr p) 0) := ix_map (by rw [List.getElem?_take, if_pos hj]; exact hp)
     have hwj := wrap_succ hj (show (k : Int) < _ by omega)
     have kq : ∀ T, (bt ++ T)[n]? = some (rowPr q) := fun T => box_app hn
     obtain ⟨qc0, qc1, ql0, qle, qh1⟩ := hqo
     obtain ⟨pc0, pc1, pl0, ple, ph1⟩ := hpo
     have w1 : IntKind.i64.wrap (q.cnt - p.cnt) = ((dC q p : Nat) : Int) := by rw [wrap_id (by omega) (by omega)]; unfold dC; omega
     have w2 : IntKind.i64.wrap (q.lo - p.hi) = q.lo - p.hi := wrap_id (by omega) (by omega)
     have w3 : IntKind.i64.wrap (q.hi - p.lo) = q.hi - p.lo := wrap_id (by omega) (by omega)
     have hD : 1 ≤ dC q p ∧ dC q p ≤ 1000000 := by unfold dC; omega
     have f1 : ∀ T, fcallOp (callL AP) true (s.push ⟨[I 0, I 0, I 0, I 0] :: rtV (rI x.l k q j) :: (bt ++ [T, [], []]), []⟩) [[I 0, I 0], [I 0, I 0]] (.fn 74) [I (q.lo - p.hi), I ((dC q p : Nat) : Int)] = some (.agg [I (slowF q p).1, I (slowF q p).2], s.push ⟨[I 0, I 0, I 0, I 0] :: rtV (rI x.l k q j) :: (bt ++ [T, [], []]), []⟩) := fun T => fc_keep (hs.push _) (fun m hm => frame_lowest hm (by omega) (by omega) hD.1 hD.2) (by rw [tail_push]; simp [fills])
     have f2 : ∀ T, fcallOp (callL AP) false (s.push ⟨[I 0, I 0, I 0, I 0] :: rtV (rI x.l k q j) :: (bt ++ [T, [], []]), []⟩) [[I 0, I 0], [I 0, I 0]] (.fn 74) [I (q.hi - p.lo), I ((dC q p : Nat) : Int)] = some (.agg [I (fastF q p).1, I (fastF q p).2], s.push ⟨[I 0, I 0, I 0, I 0] :: rtV (rI x.l k q j) :: (bt ++ [T, [], []]), []⟩) := fun T => fc_keep (hs.push _) (fun m hm => frame_lowest hm (by omega) (by omega) hD.1 hD.2) (by rw [tail_push]; simp [fills])
     obtain ⟨a1, a2, b1, b2, c1, c2, d1, d2⟩ := rtB_rI ho ha hq (show j ≤ k by omega)
     obtain ⟨⟨s1, s2⟩, s3, s4⟩ := slow_b ⟨qc0, qc1, ql0, qle, qh1⟩ ⟨pc0, pc1, pl0, ple, ph1⟩ hc
     obtain ⟨⟨t1, t2⟩, t3, t4⟩ := fast_b ⟨qc0, qc1, ql0, qle, qh1⟩ ⟨pc0, pc1, pl0, ple, ph1⟩ hc
     have l1 : ∀ m, callL AP (.fn 65) [.agg [I (rI x.l k q j).2.1.1, I (rI x.l k q j).2.1.2], .agg [I (slowF q p).1, I (slowF q p).2]] m = some (B (lessF (rI x.l k q j).2.1 (slowF q p)), m) := fun m => frame_less a1 a2 s1 s2 b1 b2 s3 s4
     have l2 : ∀ m, callL AP (.fn 65) [.agg [I (fastF q p).1, I (fastF q p).2], .agg [I (rI x.l k q j).2.2.1, I (rI x.l k q j).2.2.2]] m = some (B (lessF (fastF q p) (rI x.l k q j).2.2), m) := fun m => frame_less t1 t2 c1 c2 t3 t4 d1 d2
     have hst := rI_s (k := k) (q := q) hp
     obtain ⟨S, hS⟩ : ∃ S, S = rI x.l k q j := ⟨_, rfl⟩
     obtain ⟨S', hS'⟩ : ∃ S', S' = rI x.l k q (j + 1) := ⟨_, rfl⟩
     have ih3 : ∀ ρ' bt', ρ' 0 = x.v rowPr → ρ' 2 = .ptr s.acts.length 0 0 → ρ' 3 = .ptr s.acts.length 1 0 → ρ' 4 = B S'.1 → ρ' 12 = x.v rowPr → ρ' 13 = I x.l.length → ρ' 14 = I k → ρ' 21 = .slice o' 3 ((x.l.take k).map rowPr) → ρ' 22 = I k → ρ' 23 = I (j + 1 : Nat) → ρ' 6 = .ptr s.acts.length (n + 1 + 1) 0 → go AP f_frame_rates (.c (.loop b_frame_rates_l1) :: k_frame_rates_1) ⟨ρ', s.push ⟨[I 0, I 0, I 0, I 0] :: rtV S' :: (bt ++ bt'), []⟩⟩ = some (.agg (rtV (ratesS x.l)), s) := fun ρ' bt' q0 q2 q3 q4 q12 q13 q14 q21 q22 q23 q6 =>
      ih2 ρ' _ ⟨q0, q2, q3, by rw [q4, hS'], q12, q13, q14, q21, q22, q23, bt ++ bt', n, q6, kq bt', by rw [hS']⟩
     clear ih2 ih
     rw [← hS', ← hS] at hst
     rw [← hS] at f1 f2 l1 l2 g4 ⊢
     have hnb : (bt.length + 1 ≤ bt.length) = False := eq_false (by omega)
     have hnn : (bt.length + 1 ≤ n) = False := eq_false (by have := (List.getElem?_eq_some_iff.1 hn).1; omega)
     clear hS' hS
     obtain ⟨t, ⟨A, B'⟩, ⟨C, D⟩⟩ := S
     have hfl1 := fill_c2 (Z := [I 0, I 0, I 0, I 0]) (R := rtV (t, (A, B'), (C, D))) (y := rowPr p) (bt := bt) (a := (slowF q p).1) (b := (slowF q p).2) hs
     have hfl2 := fill_c1 (Z := [I 0, I 0, I 0, I 0]) (R := rtV (t, (A, B'), (C, D))) (y := rowPr p) (bt := bt) (a := (slowF q p).1) (b := (slowF q p).2) (c := (fastF q p).1) (d := (fastF q p).2) hs
     unfold stepRt at hst
     clear s1 s2 s3 s4 t1 t2 t3 t4 a1 a2 b1 b2 c1 c2 d1 d2
     simp only at hst
     generalize slowF q p = sl at *
     generalize fastF q p = fa at *
     obtain ⟨u, v⟩ := sl
     obtain ⟨w, z⟩ := fa
     simp only [rtV, rowPr] at f1 f2 l1 l2 hfl1 hfl2 hix2 kq g4 ⊢
     generalize (List.map rowPr (List.take k x.l)) = ML at *
     cases t with
     | false =>
      simp only [Bool.not_false, Bool.true_or, if_true] at hst
      subst hst
      simp (maxSteps := 1000000) only [go_sem, b_frame_rates_l1, g3, g4, g21, g22, g23, g6, hs, lt_dec hj, hnn, hnb, hix2, kq, w1, w2, w3, f1, f2, slot_c2, slot_c1, hfl1, hfl2, rep2, hwj, List.length_cons, List.getElem?_cons_succ, List.set_cons_succ, List.getElem?_cons_zero, List.set_cons_zero, Nat.reduceEqDiff, Nat.reduceAdd, Nat.reduceMul, Int.reduceLT, Int.reduceLE, Int.reduceToNat, Int.cast_ofNat_Int, ↓reduceIte, Nat.reduceLeDiff]
      exact ih3 _ _ (by exact g0) (by exact g2) (by exact g3) (by rfl) (by exact g12) (by exact g13) (by exact g14) (by exact g21) (by exact g22) (by rfl) (by exact g6)
     | true =>
      simp only [Bool.not_true, Bool.false_or] at hst
      cases hb1 : lessF (A, B') (u, v) with
      | false =>
       cases hb2 : lessF (w, z) (C, D) with
       | false =>
        rw [hb1] at l1 hst; rw [hb2] at l2 hst
        simp only [Bool.false_eq_true, if_false] at hst
        subst hst
        simp (maxSteps := 1000000) only [go_sem, b_frame_rates_l1, g3, g4, g21, g22, g23, g6, hs, lt_dec hj, hnn, hnb, hix2, kq, w1, w2, w3, f1, f2, l1, l2, slot_c2, slot_c1, hfl1, hfl2, rep2, hwj, List.length_cons, List.getElem?_cons_succ, List.set_cons_succ, List.getElem?_cons_zero, Nat.reduceEqDiff, Nat.reduceAdd, Nat.reduceMul, Int.reduceLT, Int.reduceLE, Int.reduceToNat, Int.cast_ofNat_Int, ↓reduceIte, Nat.reduceLeDiff]
        exact ih3 _ _ (by exact g0) (by exact g2) (by exact g3) (by rfl) (by exact g12) (by exact g13) (by exact g14) (by exact g21) (by exact g22) (by rfl) (by exact g6)
       | true =>
        rw [hb1] at l1 hst; rw [hb2] at l2 hst
        simp only [Bool.false_eq_true, if_false, if_true] at hst
        subst hst
        simp (maxSteps := 1000000) only [go_sem, b_frame_rates_l1, g3, g4, g21, g22, g23, g6, hs, lt_dec hj, hnn, hnb, hix2, kq, w1, w2, w3, f1, f2, l1, l2, slot_c2, slot_c1, hfl1, hfl2, rep2, hwj, List.length_cons, List.getElem?_cons_succ, List.set_cons_succ, List.getElem?_cons_zero, List.set_cons_zero, Nat.reduceEqDiff, Nat.reduceAdd, Nat.reduceMul, Int.reduceLT, Int.reduceLE, Int.reduceToNat, Int.cast_ofNat_Int, ↓reduceIte, Nat.reduceLeDiff]
        exact ih3 _ _ (by exact g0) (by exact g2) (by exact g3) (by rfl) (by exact g12) (by exact g13) (by exact g14) (by exact g21) (by exact g22) (by rfl) (by exact g6)
      | true =>
       cases hb2 : lessF (w, z) (C, D) with
       | false =>
        rw [hb1] at l1 hst; rw [hb2] at l2 hst
        simp only [Bool.false_eq_true, if_false, if_true] at hst
        subst hst
        simp (maxSteps := 1000000) only [go_sem, b_frame_rates_l1, g3, g4, g21, g22, g23, g6, hs, lt_dec hj, hnn, hnb, hix2, kq, w1, w2, w3, f1, f2, l1, l2, slot_c2, slot_c1, hfl1, hfl2, rep2, hwj, List.length_cons, List.getElem?_cons_succ, List.set_cons_succ, List.getElem?_cons_zero, List.set_cons_zero, Nat.reduceEqDiff, Nat.reduceAdd, Nat.reduceMul, Int.reduceLT, Int.reduceLE, Int.reduceToNat, Int.cast_ofNat_Int, ↓reduceIte, Nat.reduceLeDiff]
        exact ih3 _ _ (by exact g0) (by exact g2) (by exact g3) (by rfl) (by exact g12) (by exact g13) (by exact g14) (by exact g21) (by exact g22) (by rfl) (by exact g6)
       | true =>
        rw [hb1] at l1 hst; rw [hb2] at l2 hst
        simp only [if_true] at hst
        subst hst
        simp (maxSteps := 1000000) only [go_sem, b_frame_rates_l1, g3, g4, g21, g22, g23, g6, hs, lt_dec hj, hnn, hnb, hix2, kq, w1, w2, w3, f1, f2, l1, l2, slot_c2, slot_c1, hfl1, hfl2, rep2, hwj, List.length_cons, List.getElem?_cons_succ, List.set_cons_succ, List.getElem?_cons_zero, List.set_cons_zero, Nat.reduceEqDiff, Nat.reduceAdd, Nat.reduceMul, Int.reduceLT, Int.reduceLE, Int.reduceToNat, Int.cast_ofNat_Int, ↓reduceIte, Nat.reduceLeDiff]
        exact ih3 _ _ (by exact g0) (by exact g2) (by exact g3) (by rfl) (by exact g12) (by exact g13) (by exact g14) (by exact g21) (by exact g22) (by rfl) (by exact g6)
    ·rintro ρ m ⟨g0, g2, g3, g4, g12, g13, g14, g21, g22, g23, bt, n, g6, hn, rfl⟩
     have e := rI_e hq
     rw [e] at g4 ⊢
     simp (maxSteps := 1000000) only [go_sem, b_frame_rates_l1, b_frame_rates_r1, g14, g22, g23, ge_dec, hwk, Nat.reduceEqDiff, ↓reduceIte]
     exact ih _ _ ⟨g0, g2, g3, g4, g12, g13, rfl, bt, rfl⟩
   simp only [Sl.v] at g0 g12 hix
   rw [he] at g0
   have hlk : ((x.l.take k).map rowPr).length = k := by simp; omega
   have z0 : ∀ ρ' bt', ρ' 0 = x.v rowPr → ρ' 2 = .ptr s.acts.length 0 0 → ρ' 3 = .ptr s.acts.length 1 0 → ρ' 4 = B (rS x.l k).1 → ρ' 12 = x.v rowPr → ρ' 13 = I x.l.length → ρ' 14 = I k → ρ' 21 = .slice o' 3 ((x.l.take k).map rowPr) → ρ' 22 = I k → ρ' 23 = I 0 → ρ' 6 = .ptr s.acts.length (bt.length + 1 + 1) 0 → bt' = bt ++ [rowPr q] → go AP f_frame_rates (.c (.loop b_frame_rates_l1) :: k_frame_rates_1) ⟨ρ', s.push ⟨[I 0, I 0, I 0, I 0] :: rtV (rS x.l k) :: bt', []⟩⟩ = some (.agg (rtV (ratesS x.l)), s) := fun ρ' bt' q0 q2 q3 q4 q12 q13 q14 q21 q22 q23 q6 hbt => by
    subst hbt
    exact inner 0 ρ' _ (Nat.zero_le _) ⟨q0, q2, q3, q4, q12, q13, q14, q21, q22, q23, bt ++ [rowPr q], bt.length, q6, by simp, rfl⟩
   clear inner ih
   simp only [rtV, rowPr, Sl.v] at z0 hix ⊢
   generalize rS x.l k = S at *
   simp (maxSteps := 1000000) only [go_sem, b_frame_rates_l0, g0, g12, g13, g14, hs, lt_dec hk, hix, hsl, hlk, List.length_cons, List.getElem?_cons_succ, List.set_cons_succ, Nat.reduceEqDiff, reduceCtorEq, ↓reduceIte]
   refine z0 _ _ ?_ g2 g3 g4 g12 g13 g14 rfl rfl rfl rfl rfl
   rw [he]; exact g0
  ·rintro ρ m ⟨g0, g2, g3, g4, g12, g13, g14, bt, rfl⟩
   have : rS x.l x.l.length = ratesS x.l := rfl
   rw [this] at g4 ⊢
   generalize ratesS x.l = S at *
   simp (maxSteps := 1000000) only [go_sem, b_frame_rates_l0, b_frame_rates_r0, g2, g3, g13, g14, hs, ge_dec, List.getElem?_cons_succ, List.getElem?_cons_zero, List.set_cons_zero, Nat.reduceEqDiff, ↓reduceIte]
 rw [callL_go (show AP 64 = some c_frame_rates from rfl) rfl]
 simp only [Sl.v] at key ⊢
 simp (maxSteps := 1000000) only [go_sem, b_frame_rates, reduceCtorEq, Nat.reduceAdd, ↓reduceIte]
 exact key 0 _ _ (Nat.zero_le _) ⟨rfl, rfl, rfl, rfl, rfl, rfl, rfl, [], rfl⟩
end
end Go.Ax.Sx.Ck

namespace Go.Ax.Sx.Ck
open Go.Ax
set_option linter.unusedSimpArgs false
set_option linter.unusedVariables false
set_option maxRecDepth 100000
def subL (l : List Pr) (a b : Nat) : List Pr := (l.take b).drop a
theorem subL_get {l : List Pr} {a b i : Nat} {p : Pr} (h : (subL l a b)[i]? = some p) : l[a + i]? = some p ∧ a + i < b := by
 unfold subL at h
 rw [List.getElem?_drop, List.getElem?_take] at h
 split at h
 ·exact ⟨h, by assumption⟩
 ·cases h
theorem subL_len {l : List Pr} {a b : Nat} (hb : b ≤ l.length) : (subL l a b).length = b - a := by
 unfold subL; rw [List.length_drop, List.length_take]; omega
theorem subL_asc {l : List Pr} {a b : Nat} (h : AscP l) : AscP (subL l a b) := fun i x y hx hy =>
 h (a + i) x y (subL_get hx).1 (subL_get hy).1
theorem subL_ok {l : List Pr} {a b : Nat} (h : ∀ p ∈ l, p.Ok) : ∀ p ∈ subL l a b, p.Ok := fun p hp =>
 h p (List.mem_of_mem_take (List.mem_of_mem_drop hp))
theorem subL_ps {l : List Pr} {a b : Nat} (h : PsOk l) (hab : a < b) (hb : b ≤ l.length) : PsOk (subL l a b) :=
 ⟨by rw [subL_len hb]; omega, by rw [subL_len hb]; have := h.n20; omega, subL_ok h.ok, subL_asc h.asc⟩
theorem sl_rng {x : Sl Pr} {lo hi : Nat} (hx : x.ok 3) (hne : x.l ≠ []) (h1 : lo ≤ hi) (h2 : hi ≤ x.l.length) : ∃ y : Sl Pr, sliceOp (.sl 3) (x.v rowPr) (some (I (lo : Int))) (some (I (hi : Int))) none = some (y.v rowPr) ∧ y.ok 3 ∧ y.l = subL x.l lo hi := by
 obtain ⟨o, e, l⟩ := x
 have he : e = 3 := by
  rcases hx.1 with h | h
  ·exact absurd h hne
  ·exact h
 subst he
 have ho : o = .any ∨ o = .full := by
  rcases hx.2 with h | h | h
  ·exact .inl h
  ·exact .inr h
  ·exact absurd h.2 hne
 have a1 : asNat (I (hi : Int)) l.length = some hi := by
  have : (0 : Int) ≤ (hi : Int) ∧ (hi : Int) ≤ (l.length : Int) := by simp only at h2; omega
  simp only [asNat, this, and_self, if_true, Int.toNat_natCast]
 have a2 : asNat (I (lo : Int)) hi = some lo := by
  have : (0 : Int) ≤ (lo : Int) ∧ (lo : Int) ≤ (hi : Int) := by omega
  simp only [asNat, this, and_self, if_true, Int.toNat_natCast]
 refine ⟨⟨.any, 3, subL l lo hi⟩, ?_, ⟨.inr rfl, .inl rfl⟩, rfl⟩
 have a3 : ((l.map rowPr).take hi).drop lo = (subL l lo hi).map rowPr := by
  unfold subL; rw [List.map_drop, List.map_take]
 rcases ho with rfl | rfl
 ·simp only [Sl.v, sliceOp, mxOf, hiOf, loOf, List.length_map, or_true, if_true, a1, a2, Option.bind_some, Option.map_some, Option.isSome_none, Bool.false_eq_true, if_false, slOwn, sliceOwn, a3]
 ·simp only [Sl.v, sliceOp, mxOf, hiOf, loOf, List.length_map, or_true, if_true, a1, a2, Option.bind_some, Option.map_some, Option.isSome_none, Bool.false_eq_true, if_false, slOwn, sliceOwn, a3]
section
variable {s : Sig}
theorem isLine_all {x : Sl Pr} (hs : Ok s) (hx : x.ok 3) (ho : ∀ p ∈ x.l, p.Ok) (ha : AscP x.l) (hl : x.l.length ≤ 1000) : callL AP (.fn 36) [x.v rowPr] s = some (B (isLn x.l), s) := by
 rcases Nat.lt_or_ge x.l.length 2 with h | h
 ·have e : isLn x.l = true := by unfold isLn; rw [decide_eq_true h]; rfl
  have q1 : decide ((x.l.length : Int) < 2) = true := decide_eq_true (by omega)
  rw [e]
  simp only [Sl.v]
  rw [callL_go (show AP 36 = some c_frame_isLine from rfl) rfl]
  simp (maxSteps := 1000000) only [go_sem, b_frame_isLine, q1, reduceCtorEq, ↓reduceIte]
 ·have e : isLn x.l = !lessF (ratesS x.l).2.2 (ratesS x.l).2.1 := by unfold isLn; rw [decide_eq_false (by omega)]; rfl
  rw [e]
  obtain ⟨a1, a2, b1, b2, c1, c2, d1, d2⟩ := rtB_rS (k := x.l.length) ho ha
  exact frame_isLine hs h (fun m hm => frame_rates hm hx ho ha hl) (fun m => frame_less c1 c2 a1 a2 d1 d2 b1 b2)
theorem linesErr_all {x : Sl Pr} (hs : Ok s) (hx : x.ok 3) (h : PsOk x.l) (h2 : 2 ≤ x.l.length) : callL AP (.fn 37) [x.v rowPr] s = some (I (cond (isLn x.l) 0 13), s) :=
 frame_linesErr hs hx h h2 (fun m hm => isLine_all hm hx h.ok h.asc (by have := h.n20; omega))
end
def stepPc (l : List Pr) (out : List (Nat × Nat)) (i : Nat) : List (Nat × Nat) := match out.getLast? with
 | some p => if isLn (subL l p.1 (i + 1)) = true then out.dropLast ++ [(p.1, i)] else out ++ [(i, i)]
 | none => [(i, i)]
def pcsL (l : List Pr) : Nat → List (Nat × Nat)
 | 0 => []
 | n + 1 => stepPc l (pcsL l n) n
structure PcG (l : List Pr) (out : List (Nat × Nat)) (n : Nat) : Prop where
 le : ∀ (m : Nat) (p : Nat × Nat), out[m]? = some p → p.1 ≤ p.2 ∧ p.2 < n
 len : out.length ≤ n
 fst : ∀ p : Nat × Nat, out[0]? = some p → p.1 = 0
 nxt : ∀ (m : Nat) (p q : Nat × Nat), out[m]? = some p → out[m + 1]? = some q → q.1 = p.2 + 1 ∧ isLn (subL l p.1 (q.1 + 1)) = false
 line : ∀ (m : Nat) (p : Nat × Nat), out[m]? = some p → isLn (subL l p.1 (p.2 + 1)) = true
 last : (n = 0 ∧ out = []) ∨ ∃ init p, out = init ++ [p] ∧ p.2 + 1 = n
theorem get_snoc {α : Type} {l : List α} {x y : α} {m : Nat} (h : (l ++ [x])[m]? = some y) : (m < l.length ∧ l[m]? = some y) ∨ (m = l.length ∧ x = y) := by
 rcases Nat.lt_or_ge m l.length with h1 | h1
 ·rw [List.getElem?_append_left h1] at h; exact .inl ⟨h1, h⟩
 ·have hb := (List.getElem?_eq_some_iff.1 h).1
  rw [List.length_append, List.length_singleton] at hb
  have e : m = l.length := by omega
  rw [e, List.getElem?_append_right (Nat.le_refl _), Nat.sub_self] at h
  exact .inr ⟨e, Option.some.inj h⟩
theorem isLn_one {l : List Pr} {a b : Nat} (hb : b ≤ l.length) (h : b ≤ a + 1) : isLn (subL l a b) = true := by
 have : (subL l a b).length < 2 := by rw [subL_len hb]; omega
 unfold isLn; rw [decide_eq_true this]; rfl
theorem stepPc_nil {l : List Pr} {i : Nat} : stepPc l [] i = [(i, i)] := rfl
theorem stepPc_go {l : List Pr} {init : List (Nat × Nat)} {p : Nat × Nat} {i : Nat} (h : isLn (subL l p.1 (i + 1)) = true) : stepPc l (init ++ [p]) i = init ++ [(p.1, i)] := by
 unfold stepPc
 rw [List.getLast?_append, List.getLast?_singleton, Option.some_or]
 simp only [h, if_true, List.dropLast_concat]
theorem stepPc_new {l : List Pr} {init : List (Nat × Nat)} {p : Nat × Nat} {i : Nat} (h : isLn (subL l p.1 (i + 1)) = false) : stepPc l (init ++ [p]) i = init ++ [p] ++ [(i, i)] := by
 unfold stepPc
 rw [List.getLast?_append, List.getLast?_singleton, Option.some_or]
 simp only [h, Bool.false_eq_true, if_false]
theorem pcs_good {l : List Pr} : ∀ {n : Nat}, n ≤ l.length → PcG l (pcsL l n) n
 | 0, _ => ⟨fun m p h => (by cases h), Nat.le_refl _, fun p h => (by cases h), fun m p q h => (by cases h), fun m p h => (by cases h), .inl ⟨rfl, rfl⟩⟩
 | n + 1, hn => by
  obtain ⟨le, len, fst, nxt, line, last⟩ := pcs_good (l := l) (n := n) (by omega)
  show PcG l (stepPc l (pcsL l n) n) (n + 1)
  rcases last with ⟨rfl, h⟩ | ⟨init, p, h, hp⟩
  ·rw [h, stepPc_nil]
   refine ⟨?_, by simp, ?_, ?_, ?_, .inr ⟨[], (0, 0), rfl, rfl⟩⟩
   ·intro m p hp
    rcases get_snoc (l := []) hp with ⟨h1, h2⟩ | ⟨h1, rfl⟩
    ·cases h1
    ·exact ⟨Nat.le_refl _, by show 0 < 0 + 1; omega⟩
   ·intro p hp; cases hp; rfl
   ·intro m p q h1 h2
    rcases get_snoc (l := []) h2 with ⟨h3, _⟩ | ⟨h3, _⟩
    ·cases h3
    ·simp at h3
   ·intro m p hp
    rcases get_snoc (l := []) hp with ⟨h1, h2⟩ | ⟨h1, rfl⟩
    ·cases h1
    ·exact isLn_one hn (Nat.le_refl _)
  ·rw [h] at le len fst nxt line ⊢
   have hlast : (init ++ [p])[init.length]? = some p := by simp
   have hpl := le _ _ hlast
   rw [List.length_append, List.length_singleton] at len
   cases hb : isLn (subL l p.1 (n + 1)) with
   | true =>
    rw [stepPc_go hb]
    refine ⟨?_, by simp; omega, ?_, ?_, ?_, .inr ⟨init, (p.1, n), rfl, rfl⟩⟩
    ·intro m q hq
     rcases get_snoc hq with ⟨h1, h2⟩ | ⟨h1, rfl⟩
     ·have := le m q (by rw [List.getElem?_append_left h1]; exact h2)
      omega
     ·exact ⟨by simp only; omega, by simp only; omega⟩
    ·intro q hq
     rcases get_snoc hq with ⟨h1, h2⟩ | ⟨h1, rfl⟩
     ·exact fst q (by rw [List.getElem?_append_left h1]; exact h2)
     ·exact fst p (by rw [h1]; exact hlast)
    ·intro m q r h1 h2
     rcases get_snoc h2 with ⟨h3, h4⟩ | ⟨h3, rfl⟩
     ·rcases get_snoc h1 with ⟨h5, h6⟩ | ⟨h5, _⟩
      ·exact nxt m q r (by rw [List.getElem?_append_left h5]; exact h6) (by rw [List.getElem?_append_left h3]; exact h4)
      ·omega
     ·rcases get_snoc h1 with ⟨h5, h6⟩ | ⟨h5, _⟩
      ·have := nxt m q p (by rw [List.getElem?_append_left h5]; exact h6) (by rw [h3]; exact hlast)
       exact this
      ·omega
    ·intro m q hq
     rcases get_snoc hq with ⟨h1, h2⟩ | ⟨h1, rfl⟩
     ·exact line m q (by rw [List.getElem?_append_left h1]; exact h2)
     ·exact hb
   | false =>
    rw [stepPc_new hb]
    refine ⟨?_, by simp; omega, ?_, ?_, ?_, .inr ⟨init ++ [p], (n, n), rfl, rfl⟩⟩
    ·intro m q hq
     rcases get_snoc hq with ⟨h1, h2⟩ | ⟨h1, rfl⟩
     ·have := le m q h2
      omega
     ·exact ⟨Nat.le_refl _, by simp only; omega⟩
    ·intro q hq
     rcases get_snoc hq with ⟨h1, h2⟩ | ⟨h1, rfl⟩
     ·exact fst q h2
     ·simp at h1
    ·intro m q r h1 h2
     rcases get_snoc h2 with ⟨h3, h4⟩ | ⟨h3, rfl⟩
     ·rcases get_snoc h1 with ⟨h5, h6⟩ | ⟨h5, _⟩
      ·exact nxt m q r h6 h4
      ·omega
     ·rw [List.length_append, List.length_singleton] at h3
      rcases get_snoc h1 with ⟨h5, h6⟩ | ⟨h5, _⟩
      ·have e : m = init.length := by omega
       rw [e, hlast] at h6
       cases h6
       exact ⟨by simp only; omega, hb⟩
      ·rw [List.length_append, List.length_singleton] at h5; omega
    ·intro m q hq
     rcases get_snoc hq with ⟨h1, h2⟩ | ⟨h1, rfl⟩
     ·exact line m q h2
     ·exact isLn_one hn (Nat.le_refl _)
end Go.Ax.Sx.Ck

namespace Go.Ax.Sx.Ck
open Go.Ax
set_option linter.unusedSimpArgs false
set_option linter.unusedVariables false
set_option maxRecDepth 100000
theorem appm_nil {s : Sig} {bs : List (List AV)} {tk : List (Option Nat)} {es : Nat} {o : Own} {row : List AV} : appendmOp (s.push ⟨bs, tk⟩) es (.slice .nilS 0 []) (.slice o es [row]) = some (.rsl s.acts.length bs.length 0 es 1 0, s.push ⟨bs ++ [row], tk⟩) := by
 simp [appendmOp, Own.isNil, most, cur_push, nbox_push, newBox_push]
theorem appm_grow {s : Sig} {bs : List (List AV)} {tk : List (Option Nat)} {es n b : Nat} {o : Own} {row r2 : List AV} (hb : bs[b]? = some row) (hl : row.length = n * es) (hn : 0 < n) (hm : n + 1 ≤ 4294967296) :
  appendmOp (s.push ⟨bs, tk⟩) es (.rsl s.acts.length b 0 es n 0) (.slice o es [r2]) = some (.rsl s.acts.length bs.length 0 es (n + 1) 0, s.push ⟨bs.set b [] ++ [row ++ r2], tk ++ [none]⟩) := by
 have hbox : (s.push ⟨bs, tk⟩).box s.acts.length b = some row := by rw [box_push]; exact hb
 have hreg : (s.push ⟨bs, tk⟩).regrow b (row ++ r2) = s.push ⟨bs.set b [] ++ [row ++ r2], tk ++ [none]⟩ := by
  unfold Sig.regrow
  rw [cur_push, onRec_push]
 simp [appendmOp, most, cur_push, nbox_push, hn, hm, hbox, hl, hreg]
theorem chunks_flat {es : Nat} : ∀ {xs : List (List AV)}, (∀ r ∈ xs, r.length = es) → chunks es xs.length xs.flatten = xs
 | [], _ => rfl
 | r :: xs, h => by
  have hr := h r (by simp)
  simp only [List.length_cons, chunks, List.flatten_cons]
  rw [List.take_left' hr, List.drop_left' hr, chunks_flat fun q hq => h q (List.mem_cons_of_mem _ hq)]
abbrev rowN (p : Nat × Nat) : List AV := [I (p.1 : Int), I (p.2 : Int)]
def flN (out : List (Nat × Nat)) : List AV := (out.map rowN).flatten
theorem flN_len {out : List (Nat × Nat)} : (flN out).length = out.length * 2 := by
 induction out with
 | nil => rfl
 | cons p r ih => simp only [flN, List.map_cons, List.flatten_cons, List.length_append, List.length_cons, List.length_nil] at *; omega
theorem flN_snoc {out : List (Nat × Nat)} {p : Nat × Nat} : flN (out ++ [p]) = flN out ++ [I (p.1 : Int), I (p.2 : Int)] := by simp [flN, rowN]
theorem flN_close {out : List (Nat × Nat)} : closeAll (flN out) = some (flN out) := by
 induction out with
 | nil => rfl
 | cons p r ih => simp only [flN, List.map_cons, List.flatten_cons, rowN, List.cons_append, List.nil_append, closeAll_cons, close_int] at *; rw [ih]; rfl
theorem flN_get0 {init : List (Nat × Nat)} {p : Nat × Nat} : (flN (init ++ [p]))[0 + init.length * 2 + 0]? = some (I (p.1 : Int)) := by
 rw [flN_snoc, Nat.zero_add, Nat.add_zero, ← flN_len]
 exact at_len
theorem flN_over {init : List (Nat × Nat)} {p : Nat × Nat} {n : Nat} : overN (flN (init ++ [p])) (0 + init.length * 2 + 1) [I (n : Int)] = some (flN (init ++ [(p.1, n)])) := by
 rw [overN_eq, if_pos (by rw [flN_len]; simp; omega), flN_snoc, flN_snoc, Nat.zero_add, ← flN_len]
 simp only [setCells]
 rw [set_len1]
theorem len_rsl {d b off es n cap : Nat} : lenOp false (.rsl d b off es n cap) = some (I (n : Int)) := rfl
theorem ix_rsl {d b es n : Nat} {i : Nat} (h : i < n) : indexAddrOp none es (.rsl d b 0 es n 0) (I (i : Int)) = some (.ptr d b (0 + i * es)) := by
 have h1 : idx (I (i : Int)) n = some i := by simp [idx]; omega
 simp [indexAddrOp, h1]
theorem leave_rslN {s : Sig} {r : Rec} {b : Nat} {out : List (Nat × Nat)} (h : r.boxes[b]? = some (flN out)) : leaveVal (s.push r) (.rsl s.acts.length b 0 2 out.length 0) = some (.slice .any 2 (out.map rowN)) := by
 have hc := chunks_flat (es := 2) (xs := out.map rowN) (fun r hr => by obtain ⟨p, _, rfl⟩ := List.mem_map.1 hr; rfl)
 rw [List.length_map] at hc
 have hv : leaveVal (s.push r) (.rsl s.acts.length b 0 2 out.length 0) = leaveCell (s.push r) (.rsl s.acts.length b 0 2 out.length 0) := rfl
 rw [hv, leaveCell, if_pos (by rw [cur_push]), box_push, h]
 simp only [Option.bind_some, flN_len, Nat.zero_add, Nat.le_refl, if_true, flN_close, List.drop_zero]
 rw [show flN out = (out.map rowN).flatten from rfl, Option.some_or, Option.map_some, hc]
def GB (s : Sig) (out : List (Nat × Nat)) (x : AV) (bx : List (List AV)) : Prop :=
 (out = [] ∧ x = .slice .nilS 0 []) ∨ (∃ init p, out = init ++ [p] ∧ ∃ pre, bx = pre ++ [flN (init ++ [p])] ∧ x = .rsl s.acts.length pre.length 0 2 (init.length + 1) 0)
section
variable {s : Sig}
theorem frame_PiecesOf {x : Sl Pr} (hs : Ok s) (hx : x.ok 3) (h : PsOk x.l) :
  callL AP (.fn 12) [x.v rowPr] s = some (.tuple [.slice .any 2 ((pcsL x.l x.l.length).map rowN), I 0], s) := by
 have hne : x.l ≠ [] := by intro e; have := h.n1; rw [e] at this; simp at this
 have h20 := h.n20
 have key : ∀ (k : Nat) ρ m, k ≤ x.l.length → (ρ 0 = x.v rowPr ∧ ρ 18 = I x.l.length ∧ ρ 19 = I k ∧ ∃ bx tk, GB s (pcsL x.l k) (ρ 6) bx ∧ m = s.push ⟨bx, tk⟩) →
   go AP f_frame_PiecesOf (.c (.loop b_frame_PiecesOf_l0) :: k_frame_PiecesOf_0) ⟨ρ, m⟩ = some (.tuple [.slice .any 2 ((pcsL x.l x.l.length).map rowN), I 0], s) := by
  refine loop_up x.l.length _ (fun _ => some (.tuple [.slice .any 2 ((pcsL x.l x.l.length).map rowN), I 0], s)) ?_ ?_
  ·rintro k ρ m hk ⟨g0, g18, g19, bx, tk, hG, rfl⟩ ih
   have hwk := wrap_succ hk (show (x.l.length : Int) < _ by omega)
   have hg := pcs_good (l := x.l) (n := k) (by omega)
   rcases hG with ⟨h1, h2⟩ | ⟨init, p, h1, pre, rfl, h2⟩
   ·have ha : appendmOp (s.push ⟨bx, tk⟩) 2 (.slice .nilS 0 []) (.slice .full 2 [[I (k : Int), I (k : Int)]]) = some (.rsl s.acts.length bx.length 0 2 1 0, s.push ⟨bx ++ [[I (k : Int), I (k : Int)]], tk⟩) := appm_nil
    have w0 : IntKind.i64.wrap (0 - 1) = -1 := by decide
    have d0 : decide ((0 : Int) ≤ -1) = false := by decide
    simp (maxSteps := 1000000) only [go_sem, b_frame_PiecesOf_l0, g18, g19, h2, lt_dec hk, hwk, ha, Nat.reduceEqDiff, Int.reduceLT, Int.reduceLE, Int.reduceSub, Int.reduceNeg, Int.cast_ofNat_Int, ↓reduceIte]
    refine ih _ _ ⟨g0, g18, rfl, _, tk, .inr ⟨[], (k, k), ?_, bx, rfl, rfl⟩, rfl⟩
    show stepPc x.l (pcsL x.l k) k = _
    rw [h1]; rfl
   ·rw [h1] at hg
    have hlen := hg.len
    rw [List.length_append, List.length_singleton] at hlen
    have hpl := hg.le init.length p (by simp)
    have w0 : IntKind.i64.wrap (((init.length + 1 : Nat) : Int) - 1) = (init.length : Int) := by rw [wrap_id (by omega) (by omega)]; omega
    have d0 : decide ((0 : Int) ≤ (init.length : Int)) = true := decide_eq_true (by omega)
    have hix := ix_rsl (d := s.acts.length) (b := pre.length) (es := 2) (i := init.length) (n := init.length + 1) (by omega)
    have hget := flN_get0 (init := init) (p := p)
    obtain ⟨y, y1, y2, y3⟩ := sl_rng hx hne (lo := p.1) (hi := k + 1) (by omega) (by omega)
    have hln : ∀ m, Ok m → callL AP (.fn 36) [y.v rowPr] m = some (B (isLn (subL x.l p.1 (k + 1))), m) := fun m hm => by
     rw [← y3]
     exact isLine_all hm y2 (by rw [y3]; exact subL_ok h.ok) (by rw [y3]; exact subL_asc h.asc) (by rw [y3, subL_len (by omega)]; omega)
    simp only [Sl.v] at g0 y1 hln
    cases hb : isLn (subL x.l p.1 (k + 1)) with
    | true =>
     rw [hb] at hln
     have hov := flN_over (init := init) (p := p) (n := k)
     simp (maxSteps := 1000000) only [go_sem, b_frame_PiecesOf_l0, g0, g18, g19, h2, hs, lt_dec hk, hwk, len_rsl, w0, d0, hix, hget, y1, hln, hov, Nat.reduceEqDiff, reduceCtorEq, ↓reduceIte]
     refine ih _ _ ⟨g0, g18, rfl, _, tk, .inr ⟨init, (p.1, k), ?_, pre, rfl, h2⟩, rfl⟩
     show stepPc x.l (pcsL x.l k) k = _
     rw [h1]; exact stepPc_go hb
    | false =>
     rw [hb] at hln
     have ha : appendmOp (s.push ⟨pre ++ [flN (init ++ [p])], tk⟩) 2 (.rsl s.acts.length pre.length 0 2 (init.length + 1) 0) (.slice .full 2 [[I (k : Int), I (k : Int)]]) = some (.rsl s.acts.length (pre ++ [[]]).length 0 2 (init.length + 1 + 1) 0, s.push ⟨(pre ++ [[]]) ++ [flN (init ++ [p]) ++ [I (k : Int), I (k : Int)]], tk ++ [none]⟩) := by
      rw [appm_grow (row := flN (init ++ [p])) (by simp) (by rw [flN_len]; simp) (by omega) (by omega)]
      simp
     simp (maxSteps := 1000000) only [go_sem, b_frame_PiecesOf_l0, g0, g18, g19, h2, hs, lt_dec hk, hwk, len_rsl, w0, d0, hix, hget, y1, hln, ha, Nat.reduceEqDiff, reduceCtorEq, Nat.reduceAdd, ↓reduceIte]
     refine ih _ _ ⟨g0, g18, rfl, _, _, .inr ⟨init ++ [p], (k, k), ?_, pre ++ [[]], ?_, by rw [List.length_append (as := init), List.length_append (as := pre)]; rfl⟩, rfl⟩
     ·show stepPc x.l (pcsL x.l k) k = _
      rw [h1]; exact stepPc_new hb
     ·rw [flN_snoc (out := init ++ [p])]; simp
  ·rintro ρ m ⟨g0, g18, g19, bx, tk, hG, rfl⟩
   rcases hG with ⟨h1, h2⟩ | ⟨init, p, h1, pre, rfl, h2⟩
   ·exfalso
    have hg := pcs_good (l := x.l) (n := x.l.length) (Nat.le_refl _)
    rcases hg.last with ⟨h3, _⟩ | ⟨i, p, h3, _⟩
    ·have := h.n1; omega
    ·rw [h1] at h3; simp at h3
   ·have hlv := leave_rslN (s := s) (r := ⟨pre ++ [flN (init ++ [p])], tk⟩) (b := pre.length) (out := init ++ [p]) (by simp)
    rw [List.length_append, List.length_singleton] at hlv
    rw [h1]
    simp (maxSteps := 1000000) only [go_sem, b_frame_PiecesOf_l0, b_frame_PiecesOf_r0, g18, g19, h2, ge_dec, hlv, Nat.reduceEqDiff, ↓reduceIte]
 have hck : ∀ r, callL AP (.fn 35) [x.v rowPr] (s.push r) = some (.tuple [I 0, I 0], s.push r) := fun r => frame_CheckPairs (hs.push r) hx h
 rw [callL_go (show AP 12 = some c_frame_PiecesOf from rfl) rfl]
 simp only [Sl.v] at key hck ⊢
 simp (maxSteps := 1000000) only [go_sem, b_frame_PiecesOf, hck, Nat.reduceEqDiff, reduceCtorEq, ↓reduceIte, ne_eq, not_true]
 exact key 0 _ _ (Nat.zero_le _) ⟨rfl, rfl, rfl, [], [], .inl ⟨rfl, rfl⟩, rfl⟩
end
end Go.Ax.Sx.Ck

namespace Go.Ax.Sx.Ck
open Go.Ax
set_option linter.unusedSimpArgs false
set_option linter.unusedVariables false
set_option maxRecDepth 100000
def fitL (l : List Pr) (L : List Ch) : List Ch := L.filter fun c => l.all (fitP c)
def cornB (q p : Pr) (a : Int) : List Ch := [⟨p.cnt, a, q.cnt, q.lo⟩, ⟨p.cnt, a, q.cnt, q.hi⟩]
def chA (l : List Pr) (q p : Pr) (n : Nat) : List Ch := ([p.lo, p.hi].take n).flatMap fun a => fitL l (cornB q p a)
def chJ (l : List Pr) (q : Pr) (j : Nat) : List Ch := (l.take j).flatMap fun p => chA l q p 2
def chK (l : List Pr) (k : Nat) : List Ch := (List.range k).flatMap fun i => match l[i]? with
 | some q => chJ l q i
 | none => []
theorem chA_s {l : List Pr} {q p : Pr} {n : Nat} {a : Int} (h : [p.lo, p.hi][n]? = some a) : chA l q p (n + 1) = chA l q p n ++ fitL l (cornB q p a) := by
 unfold chA
 rw [take_get h, List.flatMap_append]; simp
theorem chJ_s {l : List Pr} {q p : Pr} {j : Nat} (h : l[j]? = some p) : chJ l q (j + 1) = chJ l q j ++ chA l q p 2 := by
 unfold chJ
 rw [take_get h, List.flatMap_append]; simp
theorem chK_s {l : List Pr} {q : Pr} {k : Nat} (h : l[k]? = some q) : chK l (k + 1) = chK l k ++ chJ l q k := by
 unfold chK
 rw [List.range_succ, List.flatMap_append]
 simp [h]
theorem fitL_s {l : List Pr} {L : List Ch} {n : Nat} {c : Ch} (h : L[n]? = some c) : fitL l (L.take (n + 1)) = fitL l (L.take n) ++ if l.all (fitP c) = true then [c] else [] := by
 unfold fitL
 rw [take_get h, List.filter_append]
 congr 1
 rw [List.filter_cons]
 split <;> simp_all
theorem fitL_le {l : List Pr} {L : List Ch} : (fitL l L).length ≤ L.length := List.length_filter_le _ _
theorem fitB_le {l : List Pr} {q p : Pr} {a : Int} {n : Nat} : (fitL l ((cornB q p a).take n)).length ≤ n := by
 refine Nat.le_trans fitL_le ?_
 rw [List.length_take]; omega
theorem cornB_ok {q p : Pr} (hq : q.Ok) (hp : p.Ok) (h : p.cnt < q.cnt) {a : Int} (ha : a = p.lo ∨ a = p.hi) {n : Nat} {c : Ch} (hc : (cornB q p a)[n]? = some c) : c.Ok := by
 obtain ⟨q1, q2, q3, q4, q5⟩ := hq
 obtain ⟨p1, p2, p3, p4, p5⟩ := hp
 have hm := List.mem_of_getElem? hc
 have : c = ⟨p.cnt, a, q.cnt, q.lo⟩ ∨ c = ⟨p.cnt, a, q.cnt, q.hi⟩ := by simpa [cornB] using hm
 rcases this with rfl | rfl
 ·constructor <;> simp only <;> omega
 ·constructor <;> simp only <;> omega
theorem ch_mem {l : List Pr} {i j : Nat} {p q : Pr} (hij : i < j) (hi : l[i]? = some p) (hj : l[j]? = some q) (hf : l.all (fitP ⟨p.cnt, p.hi, q.cnt, q.lo⟩) = true) : (⟨p.cnt, p.hi, q.cnt, q.lo⟩ : Ch) ∈ chK l l.length := by
 unfold chK
 rw [List.mem_flatMap]
 refine ⟨j, List.mem_range.2 (List.getElem?_eq_some_iff.1 hj).1, ?_⟩
 rw [hj]
 unfold chJ
 simp only
 rw [List.mem_flatMap]
 refine ⟨p, List.mem_of_getElem? (i := i) (by rw [List.getElem?_take, if_pos hij]; exact hi), ?_⟩
 unfold chA
 rw [List.mem_flatMap]
 refine ⟨p.hi, by simp, ?_⟩
 unfold fitL
 rw [List.mem_filter]
 exact ⟨by simp [cornB], hf⟩
section
variable {s : Sig}
abbrev chV (c : Ch) : AV := .agg (rowCh c)
variable {ι : Type} {base : ι → Sig} {Iv : List Ch → ι → Prop} {O : List Ch → Ch → ι → Prop} {LL N NL M : Nat}
theorem chords_calls {x : Sl Pr} (h : Hand AP LL chV base Iv (fun _ _ => false) O (fun c => c.Ok ∧ x.l.all (fitP c) = true) N NL M) (hx : x.ok 3) (ho : ∀ p ∈ x.l, p.Ok) (ha : AscP x.l) (hl : x.l.length ≤ 20) (hM : 2000 ≤ M) {i : ι} (hI : Iv [] i) :
  ∃ i', callL AP (.fn 66) [.yield LL, .eptr [x.v rowPr] 0] (base i) = some (.tuple [], base i') ∧ Iv (chK x.l x.l.length) i' := by
 have hN := h.len
 have hbx : ∀ i (r : Rec) n, ((base i).push r).box N n = r.boxes[n]? := fun i r n => by rw [← hN i]; exact box_push _ _ _
 have hsp : ∀ i (r : Rec) n b off (y : AV), ((base i).push r).store n (.ptr N b off) y = cond (fitN n y.cells) (((r.boxes[b]?).bind fun row => overN row off y.cells).map fun row => (base i).push ⟨r.boxes.set b row, r.toks⟩) none := fun i r n b off y => by
  have := store_ptr (r := r) (n := n) (b := b) (off := off) (y := y) (h.ok i)
  rw [hN i] at this; exact this
 obtain ⟨R, hR⟩ : ∃ R : Option (AV × Sig) → Prop, R = fun r => ∃ i', r = some (.tuple [], base i') ∧ Iv (chK x.l x.l.length) i' := ⟨_, rfl⟩
 have key : ∀ (k : Nat) ρ m, k ≤ x.l.length → (ρ 0 = .yield LL ∧ ρ 1 = .eptr [x.v rowPr] 0 ∧ ρ 12 = x.v rowPr ∧ ρ 13 = I x.l.length ∧ ρ 14 = I k ∧ (chK x.l k).length ≤ 80 * k ∧ ∃ bx i, m = (base i).push ⟨bx, []⟩ ∧ Iv (chK x.l k) i) →
   R (go AP f_frame_chords_1 (.c (.loop b_frame_chords_1_l0) :: k_frame_chords_1_0) ⟨ρ, m⟩) := by
  refine loop_ex x.l.length _ R ?_ ?_
  ·rintro k ρ m hk ⟨g0, g1, g12, g13, g14, hlk, bx, i, rfl, hi⟩ ih
   obtain ⟨q, hq⟩ := get_some hk
   have hqo := ho q (List.mem_of_getElem? hq)
   have hix := Sl.ix (f := rowPr) hx hq
   have hwk := wrap_succ hk (show (x.l.length : Int) < _ by omega)
   have he : x.e = 3 := by
    rcases hx.1 with h | h
    ·rw [h] at hk; simp at hk
    ·exact h
   obtain ⟨o', hsl⟩ := sl_to (o := x.o) (xs := x.l.map rowPr) (es := 3) (hi := k) (by rw [List.length_map]; omega)
   rw [← List.map_take] at hsl
   have key2 : ∀ (j : Nat) ρ m, j ≤ k → (ρ 0 = .yield LL ∧ ρ 1 = .eptr [x.v rowPr] 0 ∧ ρ 12 = x.v rowPr ∧ ρ 13 = I x.l.length ∧ ρ 14 = I k ∧ ρ 21 = .slice o' 3 ((x.l.take k).map rowPr) ∧ ρ 22 = I k ∧ ρ 23 = I j ∧ (chJ x.l q j).length ≤ 4 * j ∧ ∃ n4 bx i, ρ 4 = .ptr N n4 0 ∧ bx[n4]? = some (rowPr q) ∧ m = (base i).push ⟨bx, []⟩ ∧ Iv (chK x.l k ++ chJ x.l q j) i) →
     R (go AP f_frame_chords_1 (.c (.loop b_frame_chords_1_l1) :: k_frame_chords_1_1) ⟨ρ, m⟩) := by
    refine loop_ex k _ R ?_ ?_
    ·rintro j ρ m hj ⟨g0, g1, g12, g13, g14, g21, g22, g23, hlj, n4, bx, i, g4, hb4, rfl, hi⟩ ih2
     obtain ⟨p, hp⟩ := get_some (l := x.l) (k := j) (by omega)
     have hpo := ho p (List.mem_of_getElem? hp)
     have hc := asc_lt ha hj hp hq
     have hix2 : indexAddrOp none 3 (.slice o' 3 ((x.l.take k).map rowPr)) (I (j : Int)) = some (.eptr (rowPr p) 0) := ix_map (by rw [List.getElem?_take, if_pos hj]; exact hp)
     have hwj := wrap_succ hj (show (k : Int) < _ by omega)
     have key3 : ∀ (a : Nat) ρ m, a ≤ 2 → (ρ 0 = .yield LL ∧ ρ 1 = .eptr [x.v rowPr] 0 ∧ ρ 12 = x.v rowPr ∧ ρ 13 = I x.l.length ∧ ρ 14 = I k ∧ ρ 21 = .slice o' 3 ((x.l.take k).map rowPr) ∧ ρ 22 = I k ∧ ρ 23 = I j ∧ ρ 33 = .agg [I p.lo, I p.hi] ∧ ρ 34 = I a ∧ (chA x.l q p a).length ≤ 2 * a ∧ ∃ n4 n6 bx i, ρ 4 = .ptr N n4 0 ∧ bx[n4]? = some (rowPr q) ∧ ρ 6 = .ptr N n6 0 ∧ bx[n6]? = some (rowPr p) ∧ m = (base i).push ⟨bx, []⟩ ∧ Iv (chK x.l k ++ chJ x.l q j ++ chA x.l q p a) i) →
       R (go AP f_frame_chords_1 (.c (.loop b_frame_chords_1_l2) :: k_frame_chords_1_2) ⟨ρ, m⟩) := by
      refine loop_ex 2 _ R ?_ ?_
      ·rintro a ρ m ha2 ⟨g0, g1, g12, g13, g14, g21, g22, g23, g33, g34, hla, n4, n6, bx, i, g4, hb4, g6, hb6, rfl, hi⟩ ih3
       obtain ⟨av, hav⟩ := get_some (l := [p.lo, p.hi]) (k := a) (by simpa using ha2)
       have hav2 : av = p.lo ∨ av = p.hi := by have := List.mem_of_getElem? hav; simpa using this
       have key4 : ∀ (b : Nat) ρ m, b ≤ 2 → (ρ 0 = .yield LL ∧ ρ 1 = .eptr [x.v rowPr] 0 ∧ ρ 12 = x.v rowPr ∧ ρ 13 = I x.l.length ∧ ρ 14 = I k ∧ ρ 21 = .slice o' 3 ((x.l.take k).map rowPr) ∧ ρ 22 = I k ∧ ρ 23 = I j ∧ ρ 33 = .agg [I p.lo, I p.hi] ∧ ρ 34 = I a ∧ ρ 8 = I av ∧ ρ 43 = .agg [I q.lo, I q.hi] ∧ ρ 44 = I b ∧ ∃ n4 n6 bx i, ρ 4 = .ptr N n4 0 ∧ bx[n4]? = some (rowPr q) ∧ ρ 6 = .ptr N n6 0 ∧ bx[n6]? = some (rowPr p) ∧ m = (base i).push ⟨bx, []⟩ ∧ Iv (chK x.l k ++ chJ x.l q j ++ chA x.l q p a ++ fitL x.l ((cornB q p av).take b)) i) →
         R (go AP f_frame_chords_1 (.c (.loop b_frame_chords_1_l3) :: k_frame_chords_1_3) ⟨ρ, m⟩) := by
        refine loop_ex 2 _ R ?_ ?_
        ·rintro b ρ m hb2 ⟨g0, g1, g12, g13, g14, g21, g22, g23, g33, g34, g8, g43, g44, n4, n6, bx, i, g4, hb4, g6, hb6, rfl, hi⟩ ih4
         obtain ⟨bv, hbv⟩ := get_some (l := [q.lo, q.hi]) (k := b) (by simpa using hb2)
         have hcb : (cornB q p av)[b]? = some ⟨p.cnt, av, q.cnt, bv⟩ := by
          rcases b with _ | _ | b
          ·have e : q.lo = bv := by simpa using hbv
           rw [← e]; rfl
          ·have e : q.hi = bv := by simpa using hbv
           rw [← e]; rfl
          ·omega
         have hixb : indexOp 2 1 false (.agg [I q.lo, I q.hi]) (I (b : Int)) = some (I bv) := by
          rcases b with _ | _ | b
          ·have e : q.lo = bv := by simpa using hbv
           rw [← e]; rfl
          ·have e : q.hi = bv := by simpa using hbv
           rw [← e]; rfl
          ·omega
         have hck := cornB_ok hqo hpo hc hav2 hcb
         have hst := fitL_s (l := x.l) hcb
         have hfb := fitB_le (l := x.l) (q := q) (p := p) (a := av) (n := b)
         have e1 : ∀ m, Ok m → callL AP (.fn 67) [.agg (rowCh ⟨p.cnt, av, q.cnt, bv⟩), x.v rowPr] m = some (B (x.l.all (fitP ⟨p.cnt, av, q.cnt, bv⟩)), m) := fun m hm => frame_chord_fits hm hck hx ho (by omega)
         have d1 : decide ((b : Int) < 2) = true := decide_eq_true (by omega)
         have hwb : IntKind.i64.wrap ((b : Int) + 1) = ((b + 1 : Nat) : Int) := by rw [wrap_id (by omega) (by omega)]; omega
         have k4 : ∀ T, (bx ++ T)[n4]? = some (rowPr q) := fun T => box_app hb4
         have k6 : ∀ T, (bx ++ T)[n6]? = some (rowPr p) := fun T => box_app hb6
         simp only [Sl.v] at g1 e1
         cases hf : x.l.all (fitP ⟨p.cnt, av, q.cnt, bv⟩) with
         | false =>
          rw [hf] at e1 hst
          rw [if_neg (by simp), List.append_nil] at hst
          simp only [rowCh, rowPr] at e1 k4 k6
          simp (maxSteps := 1000000) only [go_sem, b_frame_chords_1_l3, g1, g8, g43, g44, g4, g6, d1, hixb, hb4, hb6, hN, hbx, hsp, h.ok, e1, hwb, Nat.reduceEqDiff, Nat.reduceAdd, ↓reduceIte]
          exact ih4 _ _ ⟨g0, g1, g12, g13, g14, g21, g22, g23, g33, g34, g8, g43, rfl, n4, n6, _, i, g4, k4 _, g6, k6 _, rfl, by rw [hst]; exact hi⟩
         | true =>
          rw [hf] at e1 hst
          rw [if_pos rfl] at hst
          have hlj' : (chK x.l k ++ chJ x.l q j ++ chA x.l q p a ++ fitL x.l ((cornB q p av).take b)).length < M := by
           simp only [List.length_append]; omega
          obtain ⟨bb, i', y1, y2⟩ := h.one (B := []) (ls := []) (x := ⟨p.cnt, av, q.cnt, bv⟩) hlj' hi ⟨hck, hf⟩ ⟨bx ++ [rowCh ⟨p.cnt, av, q.cnt, bv⟩], []⟩
          obtain ⟨hbt, y3⟩ := y2.never (fun _ _ => rfl)
          subst hbt
          rw [up_nil, up_nil] at y1
          simp only [rowCh, rowPr, chV] at e1 k4 k6 y1
          simp (maxSteps := 1000000) only [go_sem, b_frame_chords_1_l3, g0, g1, g8, g43, g44, g4, g6, d1, hixb, hb4, hb6, hN, hbx, hsp, h.ok, e1, y1, hwb, Nat.reduceEqDiff, reduceCtorEq, Nat.reduceAdd, ↓reduceIte]
          refine ih4 _ _ ⟨g0, g1, g12, g13, g14, g21, g22, g23, g33, g34, g8, g43, rfl, n4, n6, _, i', g4, k4 _, g6, k6 _, rfl, ?_⟩
          rw [hst, ← List.append_assoc]; exact y3
        ·rintro ρ m ⟨g0, g1, g12, g13, g14, g21, g22, g23, g33, g34, g8, g43, g44, n4, n6, bx, i, g4, hb4, g6, hb6, rfl, hi⟩
         have d1 : decide (((2 : Nat) : Int) < 2) = false := by decide
         have hwa : IntKind.i64.wrap ((a : Int) + 1) = ((a + 1 : Nat) : Int) := by rw [wrap_id (by omega) (by omega)]; omega
         have hA := chA_s (l := x.l) (q := q) hav
         have hAl : (chA x.l q p (a + 1)).length ≤ 2 * (a + 1) := by
          rw [hA, List.length_append]
          have := fitB_le (l := x.l) (q := q) (p := p) (a := av) (n := 2)
          rw [show (cornB q p av).take 2 = cornB q p av from rfl] at this
          omega
         simp (maxSteps := 1000000) only [go_sem, b_frame_chords_1_l3, b_frame_chords_1_r2, g44, g34, hwa, Nat.reduceEqDiff, Int.reduceLT, Int.cast_ofNat_Int, ↓reduceIte]
         refine ih3 _ _ ⟨g0, g1, g12, g13, g14, g21, g22, g23, g33, rfl, hAl, n4, n6, bx, i, g4, hb4, g6, hb6, rfl, ?_⟩
         rw [hA, ← List.append_assoc]; exact hi
       have hixa : indexOp 2 1 false (.agg [I p.lo, I p.hi]) (I (a : Int)) = some (I av) := by
        rcases a with _ | _ | a
        ·have e : p.lo = av := by simpa using hav
         rw [← e]; rfl
        ·have e : p.hi = av := by simpa using hav
         rw [← e]; rfl
        ·omega
       have d1 : decide ((a : Int) < 2) = true := decide_eq_true (by omega)
       have z0 : ∀ ρ', ρ' 0 = .yield LL → ρ' 1 = .eptr [x.v rowPr] 0 → ρ' 12 = x.v rowPr → ρ' 13 = I x.l.length → ρ' 14 = I k → ρ' 21 = .slice o' 3 ((x.l.take k).map rowPr) → ρ' 22 = I k → ρ' 23 = I j → ρ' 33 = .agg [I p.lo, I p.hi] → ρ' 34 = I a → ρ' 8 = I av → ρ' 43 = .agg [I q.lo, I q.hi] → ρ' 44 = I 0 → ρ' 4 = .ptr N n4 0 → ρ' 6 = .ptr N n6 0 → R (go AP f_frame_chords_1 (.c (.loop b_frame_chords_1_l3) :: k_frame_chords_1_3) ⟨ρ', (base i).push ⟨bx, []⟩⟩) := fun ρ' q0 q1 q12 q13 q14 q21 q22 q23 q33 q34 q8 q43 q44 q4 q6 =>
        key4 0 ρ' _ (Nat.zero_le _) ⟨q0, q1, q12, q13, q14, q21, q22, q23, q33, q34, q8, q43, q44, n4, n6, bx, i, q4, hb4, q6, hb6, rfl, by simpa [fitL] using hi⟩
       clear key4 ih3 ih2 ih
       simp only [Sl.v] at g1
       simp (maxSteps := 1000000) only [go_sem, b_frame_chords_1_l2, g33, g34, g4, d1, hixa, hb4, hbx, Nat.reduceEqDiff, Nat.reduceAdd, ↓reduceIte]
       exact z0 _ (by exact g0) (by exact g1) (by exact g12) (by exact g13) (by exact g14) (by exact g21) (by exact g22) (by exact g23) (by exact g33) (by exact g34) (by rfl) (by rfl) (by rfl) (by exact g4) (by exact g6)
      ·rintro ρ m ⟨g0, g1, g12, g13, g14, g21, g22, g23, g33, g34, hla, n4, n6, bx, i, g4, hb4, g6, hb6, rfl, hi⟩
       have d1 : decide (((2 : Nat) : Int) < 2) = false := by decide
       have hJ := chJ_s (q := q) hp
       have hJl : (chJ x.l q (j + 1)).length ≤ 4 * (j + 1) := by
        rw [hJ, List.length_append]; omega
       simp (maxSteps := 1000000) only [go_sem, b_frame_chords_1_l2, b_frame_chords_1_r1, g34, g23, hwj, Nat.reduceEqDiff, Int.reduceLT, Int.cast_ofNat_Int, ↓reduceIte]
       refine ih2 _ _ ⟨g0, g1, g12, g13, g14, g21, g22, rfl, hJl, n4, bx, i, g4, hb4, rfl, ?_⟩
       rw [hJ, ← List.append_assoc]; exact hi
     have z0 : ∀ ρ' bx', ρ' 0 = .yield LL → ρ' 1 = .eptr [x.v rowPr] 0 → ρ' 12 = x.v rowPr → ρ' 13 = I x.l.length → ρ' 14 = I k → ρ' 21 = .slice o' 3 ((x.l.take k).map rowPr) → ρ' 22 = I k → ρ' 23 = I j → ρ' 33 = .agg [I p.lo, I p.hi] → ρ' 34 = I 0 → ρ' 4 = .ptr N n4 0 → ρ' 6 = .ptr N bx.length 0 → bx' = bx ++ [rowPr p] → R (go AP f_frame_chords_1 (.c (.loop b_frame_chords_1_l2) :: k_frame_chords_1_2) ⟨ρ', (base i).push ⟨bx', []⟩⟩) := fun ρ' bx' q0 q1 q12 q13 q14 q21 q22 q23 q33 q34 q4 q6 hb => by
      subst hb
      exact key3 0 ρ' _ (Nat.zero_le _) ⟨q0, q1, q12, q13, q14, q21, q22, q23, q33, q34, Nat.zero_le _, n4, bx.length, _, i, q4, box_app hb4, q6, by simp, rfl, by simpa [chA] using hi⟩
     clear key3 ih2 ih
     simp only [Sl.v] at g1
     simp only [rowPr] at z0 hix2
     simp (maxSteps := 1000000) only [go_sem, b_frame_chords_1_l1, g21, g22, g23, lt_dec hj, hix2, hN, hbx, hsp, Nat.reduceEqDiff, Nat.reduceAdd, ↓reduceIte]
     exact z0 _ _ (by exact g0) (by exact g1) (by exact g12) (by exact g13) (by exact g14) (by exact g21) (by exact g22) (by exact g23) (by rfl) (by rfl) (by exact g4) (by rfl) (by rfl)
    ·rintro ρ m ⟨g0, g1, g12, g13, g14, g21, g22, g23, hlj, n4, bx, i, g4, hb4, rfl, hi⟩
     have hK := chK_s hq
     have hKl : (chK x.l (k + 1)).length ≤ 80 * (k + 1) := by
      rw [hK, List.length_append]; omega
     simp (maxSteps := 1000000) only [go_sem, b_frame_chords_1_l1, b_frame_chords_1_r0, g14, g22, g23, ge_dec, hwk, Nat.reduceEqDiff, ↓reduceIte]
     refine ih _ _ ⟨g0, g1, g12, g13, rfl, hKl, bx, i, rfl, ?_⟩
     rw [hK]; exact hi
   have hlk2 : ((x.l.take k).map rowPr).length = k := by simp; omega
   have z0 : ∀ ρ' bx', ρ' 0 = .yield LL → ρ' 1 = .eptr [x.v rowPr] 0 → ρ' 12 = x.v rowPr → ρ' 13 = I x.l.length → ρ' 14 = I k → ρ' 21 = .slice o' 3 ((x.l.take k).map rowPr) → ρ' 22 = I k → ρ' 23 = I 0 → ρ' 4 = .ptr N bx.length 0 → bx' = bx ++ [rowPr q] → R (go AP f_frame_chords_1 (.c (.loop b_frame_chords_1_l1) :: k_frame_chords_1_1) ⟨ρ', (base i).push ⟨bx', []⟩⟩) := fun ρ' bx' q0 q1 q12 q13 q14 q21 q22 q23 q4 hb => by
    subst hb
    exact key2 0 ρ' _ (Nat.zero_le _) ⟨q0, q1, q12, q13, q14, q21, q22, q23, Nat.zero_le _, bx.length, _, i, q4, by simp, rfl, by simpa [chJ] using hi⟩
   clear key2 ih
   simp only [Sl.v, rowPr] at g1 g12 hix z0
   rw [he] at g1
   have hsl' : sliceOp (.sl 3) (.slice x.o 3 (x.l.map rowPr)) none (some (I (k : Int))) none = some (.slice o' 3 ((x.l.take k).map rowPr)) := hsl
   simp (maxSteps := 1000000) only [go_sem, b_frame_chords_1_l0, g1, g12, g13, g14, lt_dec hk, hix, hsl, hlk2, hN, hsp, Nat.reduceEqDiff, ↓reduceIte]
   refine z0 _ _ (by exact g0) ?_ (by exact g12) (by exact g13) (by exact g14) (by rfl) (by rfl) (by rfl) (by rfl) (by rfl)
   rw [he]; exact g1
  ·rintro ρ m ⟨g0, g1, g12, g13, g14, hlk, bx, i, rfl, hi⟩
   rw [hR]
   refine ⟨i, ?_, hi⟩
   simp (maxSteps := 1000000) only [go_sem, b_frame_chords_1_l0, g13, g14, ge_dec, ↓reduceIte]
 rw [hR] at key
 rw [callL_go (show AP 66 = some c_frame_chords_1 from rfl) rfl]
 simp only [Sl.v] at key ⊢
 simp (maxSteps := 1000000) only [go_sem, b_frame_chords_1, ↓reduceIte]
 exact key 0 _ _ (Nat.zero_le _) ⟨rfl, rfl, rfl, rfl, rfl, Nat.le_refl _, [], i, rfl, hI⟩
end
end Go.Ax.Sx.Ck

namespace Go.Ax.Sx.Ck
open Go.Ax
set_option linter.unusedSimpArgs false
set_option linter.unusedVariables false
set_option maxRecDepth 100000
def tmStep (n : Int) (S : Bool × Int × Int) (c : Ch) : Bool × Int × Int :=
 (true, min (cond S.1 S.2.1 (c.at_ n / c.den)) (c.at_ n / c.den), max (cond S.1 S.2.2 (-(-(c.at_ n) / c.den))) (-(-(c.at_ n) / c.den)))
def tmF (n : Int) (done : List Ch) : Bool × Int × Int := done.foldl (tmStep n) (false, 0, 0)
theorem tmF_s {n : Int} {done : List Ch} {c : Ch} : tmF n (done ++ [c]) = tmStep n (tmF n done) c := by unfold tmF; rw [List.foldl_append]; rfl
theorem tmF_in {n lo hi : Int} : ∀ (L : List Ch) (S : Bool × Int × Int), (∀ c ∈ L, lo ≤ c.at_ n / c.den ∧ -(-(c.at_ n) / c.den) ≤ hi) → ((S.1 = true ∧ lo ≤ S.2.1 ∧ S.2.2 ≤ hi) ∨ (S.1 = false ∧ L ≠ [])) → lo ≤ (L.foldl (tmStep n) S).2.1 ∧ (L.foldl (tmStep n) S).2.2 ≤ hi
 | [], S, _, h => by
  rcases h with h | h
  ·exact h.2
  ·exact absurd rfl h.2
 | c :: L, S, hL, h => by
  have hc := hL c (by simp)
  refine tmF_in L (tmStep n S c) (fun x hx => hL x (by simp [hx])) (.inl ⟨rfl, ?_⟩)
  unfold tmStep
  obtain ⟨b, x, y⟩ := S
  cases b with
  | true =>
   rcases h with h | h
   ·have := h.2; simp only at this ⊢; simp only [cond_true]; omega
   ·cases h.1
  | false => simp only [cond_false]; omega
def TmI (n : Int) (done : List Ch) (r : Rec) : Prop := r = ⟨[[I n], [I 0, I 0], [I (tmF n done).2.1, I (tmF n done).2.2], [B (tmF n done).1]], []⟩
theorem at_bound {c : Ch} {n : Int} (h : c.Ok) (n0 : 0 ≤ n) (n1 : n ≤ 1000000) : -2000000000000000000 ≤ c.at_ n ∧ c.at_ n ≤ 2000000000000000000 := by
 obtain ⟨a0, ab, b1, u0, u1, v0, v1⟩ := h
 have m1 := mul_bound (u := c.t1) (v := c.den) (A := 1000000000000) (B := 1000000) (by omega) (by omega) (by unfold Ch.den; omega) (by unfold Ch.den; omega)
 have m2 := mul_bound (u := c.t2 - c.t1) (v := n - c.c1) (A := 1000000000000) (B := 1000000) (by omega) (by omega) (by omega) (by omega)
 unfold Ch.at_
 omega
theorem div_bound {x d : Int} (hd : 0 < d) (h1 : -2000000000000000000 ≤ x) (h2 : x ≤ 2000000000000000000) : -2000000000000000000 ≤ x / d ∧ x / d ≤ 2000000000000000000 := by
 constructor
 ·refine (Int.le_ediv_iff_mul_le hd).2 ?_
  have := Int.mul_le_mul_of_nonneg_left (show (1 : Int) ≤ d by omega) (show (0 : Int) ≤ 2000000000000000000 by decide)
  omega
 ·refine Int.ediv_le_of_le_mul hd ?_
  have := Int.mul_le_mul_of_nonneg_left (show (1 : Int) ≤ d by omega) (show (0 : Int) ≤ 2000000000000000000 by decide)
  omega
section
variable {s : Sig}
theorem tm_round {X T : Rec → Sig} {l d : Nat} {ρ : Nat → AV} {r : Rec} {c : Ch} {n : Int} {done : List Ch} (hM : Mid X d) (hX : ∀ r, busy l (T r) = X r) (hR : ∀ r, Ready l ⟨true, none, ρ, [25], b_frame_TimeAt_a0, b_frame_TimeAt_y0⟩ (T r)) (hok : ∀ r, Ok (T r))
  (hc : c.Ok) (n0 : 0 ≤ n) (n1 : n ≤ 1000000)
  (h3 : ρ 3 = .ptr d 0 0) (h7 : ρ 7 = .ptr d 2 0) (h8 : ρ 8 = .ptr d 3 0) (hI : TmI n done r) :
  ∃ r', callL AP (.yield l) [chV c] (T r) = some (.v (.bool true), T r') ∧ TmI n (done ++ [c]) r' := by
 have hI' : r = _ := hI
 subst hI'
 have hst := tmF_s (n := n) (done := done) (c := c)
 obtain ⟨⟨sm, a, b⟩, hS⟩ : ∃ S, S = tmF n done := ⟨_, rfl⟩
 unfold TmI
 rw [← hS] at hst ⊢
 simp only at hst ⊢
 have hfin : ∀ r ρ' q, finR l .normal ⟨ρ', (X r).push q⟩ = some (.v (.bool true), T r) := fun r ρ' q => by rw [← hX]; exact finR_n (hR r)
 have hokX : ∀ r, Ok (X r) := fun r => by rw [← hX]; exact (hok r).busy
 obtain ⟨N, hN⟩ : ∃ N, ∀ r, (X r).acts.length = N := ⟨(X ⟨[], []⟩).acts.length, fun r => by
  have := congrArg (fun s : Sig => s.acts.length) (hM.on ⟨[], []⟩ (fun _ => r))
  simp only [Sig.onRec, List.length_modify] at this
  exact this.symm⟩
 have hbx : ∀ r q b, ((X r).push q).box d b = r.boxes[b]? := fun r q b => hM.box
 have e1 : ∀ m, callL AP (.fn 40) [.agg (rowCh c), I n] m = some (I (c.at_ n), m) := fun m => frame_chord_at hc n0 n1
 have hden : 0 < c.den ∧ c.den ≤ 1000000 := by have := hc.a0; have := hc.ab; have := hc.b1; unfold Ch.den; omega
 obtain ⟨q1, q2⟩ := at_bound hc n0 n1
 obtain ⟨x, hx⟩ : ∃ x, x = c.at_ n := ⟨_, rfl⟩
 unfold tmStep at hst
 rw [← hx] at e1 q1 q2 hst
 obtain ⟨p1, p2⟩ := div_bound hden.1 q1 q2
 obtain ⟨p3, p4⟩ := div_bound (x := -x) hden.1 (by omega) (by omega)
 have w1 : IntKind.i64.wrap (-x) = -x := wrap_id (by omega) (by omega)
 have w2 : IntKind.i64.wrap (-(-x / c.den)) = -(-x / c.den) := wrap_id (by omega) (by omega)
 have f1 : ∀ r ro, fcallOp (callL AP) ro ((X r).push ⟨[rowCh c, []], []⟩) [[I 0, I 0]] (.fn 42) [.agg (rowCh c)] = some (I c.den, (X r).push ⟨[rowCh c, []], []⟩) := fun r ro => fc_keep ((hokX r).push _) (fun m _ => frame_chord_den hc) (by rw [tail_push]; simp [fills])
 have f2 : ∀ r ro, fcallOp (callL AP) ro ((X r).push ⟨[rowCh c, []], []⟩) [[I 0, I 0]] (.fn 41) [I x, I c.den] = some (I (x / c.den), (X r).push ⟨[rowCh c, []], []⟩) := fun r ro => fc_keep ((hokX r).push _) (fun m _ => frame_floor (by omega) (by omega) hden.1 hden.2) (by rw [tail_push]; simp [fills])
 have f3 : ∀ r ro, fcallOp (callL AP) ro ((X r).push ⟨[rowCh c, []], []⟩) [[I 0, I 0]] (.fn 41) [I (-x), I c.den] = some (I (-x / c.den), (X r).push ⟨[rowCh c, []], []⟩) := fun r ro => fc_keep ((hokX r).push _) (fun m _ => frame_floor (by omega) (by omega) hden.1 hden.2) (by rw [tail_push]; simp [fills])
 have s1 : ∀ (a b u v : Int) (sm : Bool) q, ((X ⟨[[I n], [I 0, I 0], [I a, I b], [B sm]], []⟩).push q).store 2 (.ptr d 2 0) (.agg [I u, I v]) = some ((X ⟨[[I n], [I 0, I 0], [I u, I v], [B sm]], []⟩).push q) := fun a b u v sm q => by
  have := hM.store (r := ⟨[[I n], [I 0, I 0], [I a, I b], [B sm]], []⟩) (r0 := q) (b := 2) (off := 0) (n := 2) (y := .agg [I u, I v]) rfl rfl (row := [I a, I b]) (row' := [I u, I v]) rfl rfl
  exact this
 have s2 : ∀ (u v : Int) q, ((X ⟨[[I n], [I 0, I 0], [I u, I v], [B false]], []⟩).push q).store 1 (.ptr d 3 0) (.v (.bool true)) = some ((X ⟨[[I n], [I 0, I 0], [I u, I v], [B true]], []⟩).push q) := fun u v q => by
  have := hM.store (r := ⟨[[I n], [I 0, I 0], [I u, I v], [B false]], []⟩) (r0 := q) (b := 3) (off := 0) (n := 1) (y := .v (.bool true)) rfl rfl (row := [B false]) (row' := [B true]) rfl rfl
  exact this
 generalize x / c.den = u at *
 generalize -x / c.den = v at *
 obtain ⟨dn, hdn⟩ : ∃ dn, dn = c.den := ⟨_, rfl⟩
 rw [← hdn] at f1 f2 f3
 have hTX : ∀ r, (T r).acts.length = N := fun r => by rw [← hN r, ← hX r]; rfl
 have hbN : ∀ r q b, ((X r).push q).box N b = q.boxes[b]? := fun r q b => by rw [← hN r]; exact box_push _ _ _
 have hlrN : ∀ r q g n b off, loadrOp ((X r).push q) 1 g n (.ptr N b off) = if q.boxes.length ≤ b + 1 then none else ((X r).push q).load g n (.ptr N b off) := fun r q g n b off => by rw [← hN r]; exact loadr_ptr
 have hfl : ∀ r (u v : Int), fillOp ((X r).push ⟨[rowCh c, [I 0, I 0]], []⟩) 1 2 (.ptr N 1 0) (.agg [I u, I v]) = some ((X r).push ⟨[rowCh c, [I u, I v]], []⟩) := fun r u v => by
  rw [← hN r, fill_ptr, if_pos ⟨rfl, by decide⟩]
  simp (maxSteps := 1000000) only [go_sem, hokX r]
 rw [hst]
 cases sm with
 | false =>
  simp only [cond_false]
  refine ⟨_, ?_, rfl⟩
  rw [callL_round (hR _) rfl]
  simp only [rowCh] at e1 f1 f2 f3 hfl ⊢
  simp (maxSteps := 1000000) only [go_sem, b_frame_TimeAt_a0, finA_n (hR _), hok _, setParams_1, Nat.reduceEqDiff, ↓reduceIte]
  simp (maxSteps := 1000000) only [go_sem, b_frame_TimeAt_y0, hX, hTX, hN, h3, h7, h8, hbx, hbN, hlrN, hfl, e1, f1, f2, f3, w1, w2, rep1, s1, s2, hfin, Nat.reduceEqDiff, Nat.reduceAdd, ↓reduceIte, Nat.reduceLeDiff]
 | true =>
  simp only [cond_true]
  refine ⟨_, ?_, rfl⟩
  rw [callL_round (hR _) rfl]
  simp only [rowCh] at e1 f1 f2 f3 hfl ⊢
  simp (maxSteps := 1000000) only [go_sem, b_frame_TimeAt_a0, finA_n (hR _), hok _, setParams_1, Nat.reduceEqDiff, ↓reduceIte]
  simp (maxSteps := 1000000) only [go_sem, b_frame_TimeAt_y0, hX, hTX, hN, h3, h7, h8, hbx, hbN, hlrN, hfl, e1, f1, f2, f3, w1, w2, rep1, s1, hfin, Nat.reduceEqDiff, Nat.reduceAdd, ↓reduceIte, Nat.reduceLeDiff]
end
end Go.Ax.Sx.Ck

namespace Go.Ax.Sx.Ck
open Go.Ax
set_option linter.unusedSimpArgs false
set_option linter.unusedVariables false
set_option maxRecDepth 100000
section
variable {s : Sig}
abbrev tmLp (ρ : Nat → AV) : ALoop := ⟨true, none, ρ, [25], b_frame_TimeAt_a0, b_frame_TimeAt_y0⟩
abbrev tmBase (s : Sig) (ρ : Nat → AV) (r : Rec) : Sig := enterLoop (s.push r) (tmLp ρ)
theorem tm_hand {ρ : Nat → AV} {l : List Pr} {n : Int} (hs : Ok s) (n0 : 0 ≤ n) (n1 : n ≤ 1000000)
  (h3 : ρ 3 = .ptr s.acts.length 0 0) (h7 : ρ 7 = .ptr s.acts.length 2 0) (h8 : ρ 8 = .ptr s.acts.length 3 0) :
  Hand AP s.loops.length chV (tmBase s ρ) (TmI n) (fun _ _ => false) (fun _ _ _ => False) (fun c => c.Ok ∧ l.all (fitP c) = true) (s.acts.length + 1) (s.loops.length + 1) 5000 := by
 refine ⟨fun r => (hs.push _).enter, fun r => by simp [tmBase, enterLoop, Sig.push], fun r => by simp [tmBase, enterLoop, Sig.push], ?_, fun _ _ _ _ _ _ _ _ h => by cases h⟩
 intro done c r B ls hd hI hc _
 have hM : Mid (fun r => up (busy s.loops.length (enterLoop (s.push r) (tmLp ρ))) B ls) s.acts.length := mid_loop hs
 have hX : ∀ r, busy s.loops.length (up (tmBase s ρ r) B ls) = (fun r => up (busy s.loops.length (enterLoop (s.push r) (tmLp ρ))) B ls) r := fun r => up_busy (by simp [enterLoop, Sig.push])
 exact tm_round (T := fun r => up (tmBase s ρ r) B ls) hM hX (fun r => up_ready (enter_ready (hs.push r))) (fun r => ((hs.push _).enter).up) hc.1 n0 n1 h3 h7 h8 hI
theorem frame_chords {x : Sl Pr} (hs : Ok s) (hx : x.ok 3) : callL AP (.fn 39) [x.v rowPr] s = some (.fn 66 [] [.eptr [x.v rowPr] 0], s) := by
 have hc := Sl.close (f := rowPr) hx
 have hca : closeAll [x.v rowPr] = some [x.v rowPr] := by simp only [closeAll_cons, closeAll_nil, hc]; rfl
 simp only [Sl.v] at hca ⊢
 rw [callL_go (show AP 39 = some c_frame_chords from rfl) rfl]
 simp (maxSteps := 1000000) only [go_sem, b_frame_chords, hca, Nat.reduceEqDiff, Nat.reduceAdd, ↓reduceIte]
theorem TimeAt_clash {x : Sl Pr} {n : Int} (hs : Ok s) (hx : x.ok 3) (h : PsOk x.l) (h2 : 2 ≤ x.l.length) (hl : isLn x.l = false) (n0 : 0 ≤ n) (n1 : n ≤ 1000000) :
  callL AP (.fn 14) [x.v rowPr, I n] s = some (.tuple [.agg [I 0, I 0], I 13], s) := by
 have e1 : ∀ m, Ok m → callL AP (.fn 37) [x.v rowPr] m = some (I 13, m) := fun m hm => by rw [linesErr_all hm hx h h2, hl]; rfl
 have e2 : ∀ m, callL AP (.fn 38) [I n, I 0, I 1000000] m = some (B true, m) := fun m => by rw [frame_within, wi_t n0 n1]
 simp only [Sl.v] at e1 ⊢
 rw [callL_go (show AP 14 = some c_frame_TimeAt from rfl) rfl]
 simp (maxSteps := 1000000) only [go_sem, b_frame_TimeAt, hs, e1, e2, frame_unless, frame_first2, firstErr, Nat.reduceEqDiff, reduceCtorEq, Nat.reduceAdd, Int.reduceEq, ↓reduceIte, ne_eq, not_false_eq_true]
def tmS (l : List Pr) (n : Int) : Bool × Int × Int := tmF n (chK l l.length)
theorem ch_all {l : List Pr} (ha : AscP l) {n : Nat} {c : Ch} (h : c ∈ chK l n) : l.all (fitP c) = true ∧ c.c1 < c.c2 := by
 unfold chK at h
 rw [List.mem_flatMap] at h
 obtain ⟨j, _, h⟩ := h
 cases hq : l[j]? with
 | none => rw [hq] at h; cases h
 | some q =>
  rw [hq] at h
  unfold chJ at h
  simp only at h
  rw [List.mem_flatMap] at h
  obtain ⟨p, hp, h⟩ := h
  obtain ⟨i, hi⟩ := List.getElem?_of_mem hp
  rw [List.getElem?_take] at hi
  split at hi
  ·rename_i hij
   unfold chA at h
   rw [List.mem_flatMap] at h
   obtain ⟨a, _, h⟩ := h
   unfold fitL at h
   rw [List.mem_filter] at h
   refine ⟨h.2, ?_⟩
   have hlt := asc_lt ha hij hi hq
   have : c = ⟨p.cnt, a, q.cnt, q.lo⟩ ∨ c = ⟨p.cnt, a, q.cnt, q.hi⟩ := by simpa [cornB] using h.1
   rcases this with rfl | rfl <;> exact hlt
  ·cases hi
theorem tmS_in {l : List Pr} {p : Pr} (h : PsOk l) (h2 : 2 ≤ l.length) (hl : isLn l = true) (hp : p ∈ l) : p.lo ≤ (tmS l p.cnt).2.1 ∧ (tmS l p.cnt).2.2 ≤ p.hi := by
 have hne : chK l l.length ≠ [] := by
  obtain ⟨i, j, u, v, hij, hi, hj, hf⟩ := chord_ex h.asc h.ok h2 hl
  intro e
  have := ch_mem hij hi hj hf
  rw [e] at this; cases this
 exact tmF_in _ _ (fun c hc => by
  obtain ⟨h3, h4⟩ := ch_all h.asc hc
  exact fit_floor h4 ((List.all_eq_true.1 h3) p hp)) (.inr ⟨rfl, hne⟩)
theorem TimeAt_in {x : Sl Pr} {n : Int} (hs : Ok s) (hx : x.ok 3) (h : PsOk x.l) (h2 : 2 ≤ x.l.length) (hl : isLn x.l = true) (n0 : 0 ≤ n) (n1 : n ≤ 1000000) :
  callL AP (.fn 14) [x.v rowPr, I n] s = some (.tuple [.agg [I (tmS x.l n).2.1, I (tmS x.l n).2.2], I 0], s) := by
 have e1 : ∀ m, Ok m → callL AP (.fn 37) [x.v rowPr] m = some (I 0, m) := fun m hm => by rw [linesErr_all hm hx h h2, hl]; rfl
 have e2 : ∀ m, callL AP (.fn 38) [I n, I 0, I 1000000] m = some (B true, m) := fun m => by rw [frame_within, wi_t n0 n1]
 have e3 : ∀ r, callL AP (.fn 39) [x.v rowPr] (s.push r) = some (.fn 66 [] [.eptr [x.v rowPr] 0], s.push r) := fun r => frame_chords (hs.push r) hx
 have key : ∀ ρ : Nat → AV, ρ 3 = .ptr s.acts.length 0 0 → ρ 4 = .ptr s.acts.length 1 0 → ρ 7 = .ptr s.acts.length 2 0 → ρ 8 = .ptr s.acts.length 3 0 → ρ 24 = .fn 66 [] [.eptr [x.v rowPr] 0] →
   go AP f_frame_TimeAt (.c (.rangeFunc (.tmp 24) [25] b_frame_TimeAt_a0 b_frame_TimeAt_y0) :: .blk 0 :: [.c b_frame_TimeAt_r0]) ⟨ρ, s.push ⟨[[I n], [I 0, I 0], [I 0, I 0], [B false]], []⟩⟩ = some (.tuple [.agg [I (tmS x.l n).2.1, I (tmS x.l n).2.2], I 0], s) := by
  intro ρ h3 h4 h7 h8 h24
  obtain ⟨r', hc, hr⟩ := chords_calls (tm_hand (l := x.l) hs n0 n1 h3 h7 h8) hx h.ok h.asc (by have := h.n20; omega) (by omega)
   (i := ⟨[[I n], [I 0, I 0], [I 0, I 0], [B false]], []⟩) rfl
  have hr' : r' = _ := hr
  rw [go_range (x := .tmp 24) h24]
  refine (congrArg (Option.bind · _) hc).trans ?_
  simp only [Option.bind_some]
  refine (goL_normal (m := s.push r') (lp := tmLp ρ) rfl rfl rfl).trans ?_
  rw [hr']
  unfold tmS
  generalize tmF n (chK x.l x.l.length) = S
  simp (maxSteps := 1000000) only [go_sem, b_frame_TimeAt_r0, h4, h7, hs, Nat.reduceEqDiff, ↓reduceIte]
 simp only [Sl.v] at e1 e3 key ⊢
 rw [callL_go (show AP 14 = some c_frame_TimeAt from rfl) rfl]
 simp (maxSteps := 1000000) only [go_sem, b_frame_TimeAt, hs, e1, e2, e3, frame_unless, frame_first2, firstErr, Nat.reduceEqDiff, reduceCtorEq, Nat.reduceAdd, ↓reduceIte, ne_eq, not_true]
 exact key _ rfl rfl rfl rfl rfl
end
end Go.Ax.Sx.Ck

namespace Go.Ax.Sx.Ck
open Go.Ax
set_option linter.unusedSimpArgs false
set_option linter.unusedVariables false
set_option maxRecDepth 100000
theorem exPk_ok : ∀ p ∈ exPk.l, p.Ok := by
 intro p hp
 have : p = ⟨9, 0, ⟨.full, 1, [1, 2]⟩⟩ ∨ p = ⟨9, 1, ⟨.full, 1, [3]⟩⟩ := by simpa [exPk] using hp
 rcases this with rfl | rfl
 ·refine ⟨⟨.inr rfl, .inr (.inl rfl)⟩, by decide, by decide, by decide, by decide, by decide, ?_⟩
  intro x hx
  have hx' : x = 1 ∨ x = 2 := by simpa using hx
  omega
 ·refine ⟨⟨.inr rfl, .inr (.inl rfl)⟩, by decide, by decide, by decide, by decide, by decide, ?_⟩
  intro x hx
  have hx' : x = 3 := by simpa using hx
  omega
theorem exPr_ok : PsOk exPr.l := by
 refine ⟨by decide, by decide, ?_, ?_⟩
 ·intro p hp
  have : p = ⟨0, 10, 12⟩ ∨ p = ⟨10, 30, 32⟩ ∨ p = ⟨20, 50, 51⟩ := by simpa [exPr] using hp
  rcases this with rfl | rfl | rfl <;> exact ⟨by decide, by decide, by decide, by decide, by decide⟩
 ·intro i a b ha hb
  match i, ha, hb with
  | 0, ha, hb => cases ha; cases hb; decide
  | 1, ha, hb => cases ha; cases hb; decide
  | i + 2, ha, hb => cases hb
theorem exN : framesN 4 exPk.l = 3 := by decide
theorem exF : firstOf 4 (startsL (fillP 4 exPk.l) (fillP 4 exPk.l).length) 1 = 1 := by decide
theorem exP : pcsL exPr.l 3 = [(0, 2)] := by decide
section
variable {s : Sig}
theorem t_frameShown (hs : Ok s) : callL AP (.fn 4) [] s = some (B true, s) := by
 have e1 : ∀ r, callL AP (.fn 15) [] (s.push r) = some (rulesV 4 2, s.push r) := fun r => l_Rules (hs.push r)
 have e2 : ∀ m, callL AP (.fn 16) [] m = some (exPk.v rowPk, m) := fun m => l_Packets
 have e3 : ∀ r, callL AP (.fn 7) [rulesV 4 2, .agg [I 0, I 0], exPk.v rowPk] (s.push r) = some (.tuple [(acS 4 (packedL 4 exPk.l)).v rowFm, I 0], s.push r) := fun r =>
  frame_Packed (L := 4) (C := 2) (x := exPk) (hs.push r) ⟨by decide, by decide, by decide, by decide⟩ ⟨.inr rfl, .inr (.inl rfl)⟩ (by decide) exPk_ok (by decide) (by rw [exN]; decide) (by rw [exN]; decide)
 have e4 : ∀ m, callL AP (.fn 17) [] m = some (exPr.v rowPr, m) := fun m => l_Pairs
 have e5 : ∀ r, callL AP (.fn 12) [exPr.v rowPr] (s.push r) = some (.tuple [.slice .any 2 [[I 0, I 2]], I 0], s.push r) := fun r => by
  have := frame_PiecesOf (x := exPr) (hs.push r) ⟨.inr rfl, .inr (.inl rfl)⟩ exPr_ok
  rw [show exPr.l.length = 3 from rfl, exP] at this
  exact this
 have e6 : ∀ o' m, callL AP (.fn 18) [.slice .any 2 [[I 0, I 2]], .slice o' 2 [[I 0, I 2]]] m = some (B true, m) := fun o' m => b_Ranges_ex
 have hg := packed_get (L := 4) (l := exPk.l) (k := 1) (by rw [exN]; decide)
 have hl : (packedL 4 exPk.l).length = 3 := by rw [packed_len, exN]
 obtain ⟨y, hy⟩ : ∃ y, y = acS 4 (packedL 4 exPk.l) := ⟨_, rfl⟩
 have hyl : y.l = packedL 4 exPk.l := by rw [hy, acS_l]
 have hyo : y.ok 4 := by rw [hy]; exact acS_ok
 rw [← hy] at e3
 rw [← hyl] at hg hl
 have hix := Sl.ix (f := rowFm) hyo hg
 have hd : (mkF 4 (startsL (fillP 4 exPk.l) (fillP 4 exPk.l).length) 1 (((pksB (fillP 4 exPk.l)).drop (1 * 4)).take 4)).first = 1 := exF
 generalize mkF 4 (startsL (fillP 4 exPk.l) (fillP 4 exPk.l).length) 1 (((pksB (fillP 4 exPk.l)).drop (1 * 4)).take 4) = f at *
 simp only [rowFm] at hix
 rw [hd] at hix
 have hix' : indexAddrOp none 4 (y.v rowFm) (I 1) = some (.eptr [I f.ch, I f.cnt, I 1, f.data.v rowI] 0) := hix
 generalize exPk.v rowPk = P1 at *
 generalize exPr.v rowPr = P2 at *
 have hlen : lenOp false (y.v rowFm) = some (I 3) := by
  have : lenOp false (y.v rowFm) = some (I (y.l.length : Int)) := by simp [lenOp]
  rw [this, hl]; rfl
 generalize y.v rowFm = Y at *
 clear hy hyl hyo hg hl hix
 rw [callL_go (show AP 4 = some c_t_frameShown from rfl) rfl]
 simp (maxSteps := 1000000) only [go_sem, b_t_frameShown, e1, e2, e3, e4, e5, e6, hix', hlen, Nat.reduceEqDiff, Nat.reduceAdd, ↓reduceIte]
end
end Go.Ax.Sx.Ck

namespace Go.Ax.Sx.Ck
open Go.Ax
set_option linter.unusedSimpArgs false
set_option linter.unusedVariables false
set_option maxRecDepth 100000
theorem sl_rngE {o : Own} {l : List Pr} {lo hi : Nat} (ho : o.isNil = false) (h1 : lo ≤ hi) (h2 : hi ≤ l.length) : ∃ o', sliceOp (.sl 3) (.slice o 3 (l.map rowPr)) (some (I (lo : Int))) (some (I (hi : Int))) none = some (.slice o' 3 ((subL l lo hi).map rowPr)) := by
 have a1 : asNat (I (hi : Int)) l.length = some hi := by
  have : (0 : Int) ≤ (hi : Int) ∧ (hi : Int) ≤ (l.length : Int) := by omega
  simp only [asNat, this, and_self, if_true, Int.toNat_natCast]
 have a2 : asNat (I (lo : Int)) hi = some lo := by
  have : (0 : Int) ≤ (lo : Int) ∧ (lo : Int) ≤ (hi : Int) := by omega
  simp only [asNat, this, and_self, if_true, Int.toNat_natCast]
 have a3 : ((l.map rowPr).take hi).drop lo = (subL l lo hi).map rowPr := by
  unfold subL; rw [List.map_drop, List.map_take]
 refine ⟨slOwn o false (lo == 0 && hi == l.length) (hi == l.length && decide (0 < l.length)), ?_⟩
 simp only [sliceOp, mxOf, hiOf, loOf, List.length_map, or_true, if_true, a1, a2, Option.bind_some, Option.map_some, Option.isSome_none, a3]
def nxtP (out : List (Nat × Nat)) : Nat → Nat
 | 0 => 0
 | k + 1 => match out[k]? with
  | some p => p.2 + 1
  | none => 0
theorem nxt_at {l : List Pr} {out : List (Nat × Nat)} {n k : Nat} {p : Nat × Nat} (h : PcG l out n) (hp : out[k]? = some p) : nxtP out k = p.1 := by
 cases k with
 | zero => exact (h.fst p hp).symm
 | succ k =>
  obtain ⟨q, hq⟩ := get_some (l := out) (k := k) (by have := (List.getElem?_eq_some_iff.1 hp).1; omega)
  simp only [nxtP, hq]
  exact (h.nxt k q p hq hp).1.symm
theorem nxt_end {l : List Pr} {out : List (Nat × Nat)} {n : Nat} (h : PcG l out n) (hn : 1 ≤ n) : nxtP out out.length = n := by
 rcases h.last with ⟨h0, _⟩ | ⟨init, p, rfl, hp⟩
 ·omega
 ·rw [List.length_append, List.length_singleton]
  have : (init ++ [p])[init.length]? = some p := by simp
  simp only [nxtP, this]
  exact hp
section
variable {s : Sig}
theorem seg_pieces {o : Own} {l : List Pr} (hs : Ok s) (ho : o.isNil = false) (h : PsOk l) {ρ : Nat → AV} {bx : List (List AV)} {tk : List (Option Nat)}
  (h15 : ρ 15 = .slice o 3 (l.map rowPr)) (h18 : ρ 18 = .slice .any 2 ((pcsL l l.length).map rowN)) (h20 : ρ 20 = I 0) (h21 : ρ 21 = I 0) :
  go AP f_t_TopFrameClockSent (.c (.loop b_t_TopFrameClockSent_l0) :: k_t_TopFrameClockSent_0) ⟨ρ, s.push ⟨bx, tk⟩⟩ = some (B true, s) := by
 have hg := pcs_good (l := l) (n := l.length) (Nat.le_refl _)
 obtain ⟨out, hout⟩ : ∃ out, out = pcsL l l.length := ⟨_, rfl⟩
 rw [← hout] at hg h18
 have h20' := h.n20
 have hn1 := h.n1
 have key : ∀ (k : Nat) ρ m, k ≤ out.length → (ρ 15 = .slice o 3 (l.map rowPr) ∧ ρ 18 = .slice .any 2 (out.map rowN) ∧ ρ 20 = I (nxtP out k) ∧ ρ 21 = I k ∧ ∃ bx, m = s.push ⟨bx, tk⟩) →
   go AP f_t_TopFrameClockSent (.c (.loop b_t_TopFrameClockSent_l0) :: k_t_TopFrameClockSent_0) ⟨ρ, m⟩ = some (B true, s) := by
  refine loop_up out.length _ (fun _ => some (B true, s)) ?_ ?_
  ·rintro k ρ m hk ⟨g15, g18, g20, g21, bx, rfl⟩ ih
   obtain ⟨p, hp⟩ := get_some hk
   have hol := hg.len
   have hwk := wrap_succ hk (show (out.length : Int) < _ by omega)
   have hix : indexAddrOp none 2 (.slice .any 2 (out.map rowN)) (I (k : Int)) = some (.eptr (rowN p) 0) := ix_map hp
   have hnx := nxt_at hg hp
   obtain ⟨hp1, hp2⟩ := hg.le k p hp
   have hwi : wi (p.2 : Int) (p.1 : Int) ((l.length : Int) - 1) = true := wi_t (by omega) (by omega)
   have w1 : IntKind.i64.wrap ((l.length : Int) - 1) = (l.length : Int) - 1 := wrap_id (by omega) (by omega)
   have e1 : ∀ m, callL AP (.fn 11) [I (p.2 : Int), I (p.1 : Int), I ((l.length : Int) - 1)] m = some (B true, m) := fun m => by rw [b_Within, hwi]
   have w2 : IntKind.i64.wrap ((p.2 : Int) + 1) = ((p.2 + 1 : Nat) : Int) := by rw [wrap_id (by omega) (by omega)]; omega
   have w3 : IntKind.i64.wrap ((p.1 : Int) + 1) = ((p.1 + 1 : Nat) : Int) := by rw [wrap_id (by omega) (by omega)]; omega
   obtain ⟨o', hsl⟩ := sl_rngE (l := l) ho (lo := p.1) (hi := p.2 + 1) (by omega) (by omega)
   have hlen := subL_len (l := l) (a := p.1) (b := p.2 + 1) (by omega)
   have hps := subL_ps h (show p.1 < p.2 + 1 by omega) (show p.2 + 1 ≤ l.length by omega)
   have hln := hg.line k p hp
   obtain ⟨y, hy⟩ : ∃ y, y = subL l p.1 (p.2 + 1) := ⟨_, rfl⟩
   rw [← hy] at hsl hlen hps hln
   have inner : ∀ (j : Nat) ρ m, j ≤ (if 2 ≤ y.length then y.length else 0) → (ρ 15 = .slice o 3 (l.map rowPr) ∧ ρ 18 = .slice .any 2 (out.map rowN) ∧ ρ 20 = I (p.2 + 1 : Nat) ∧ ρ 21 = I k ∧ ρ 23 = .slice o' 3 (y.map rowPr) ∧ ρ 24 = I j ∧ ∃ (bx : List (List AV)) (n : Nat), ρ 22 = .ptr s.acts.length n 0 ∧ bx[n]? = some (rowN p) ∧ m = s.push ⟨bx, tk⟩) →
     go AP f_t_TopFrameClockSent (.c (.loop b_t_TopFrameClockSent_l1) :: k_t_TopFrameClockSent_1) ⟨ρ, m⟩ = some (B true, s) := by
    refine loop_up _ _ (fun _ => some (B true, s)) ?_ ?_
    ·rintro j ρ m hj ⟨g15, g18, g20, g21, g23, g24, bx, n, g22, hn, rfl⟩ ih2
     have h2 : 2 ≤ y.length := by
      rcases Nat.lt_or_ge y.length 2 with h | h
      ·rw [if_neg (by omega)] at hj; omega
      ·exact h
     rw [if_pos h2] at hj
     obtain ⟨q, hq⟩ := get_some hj
     have hqm := List.mem_of_getElem? hq
     have hqo := hps.ok q hqm
     have hixq : indexAddrOp none 3 (.slice o' 3 (y.map rowPr)) (I (j : Int)) = some (.eptr (rowPr q) 0) := ix_map hq
     have d1 : decide ((1 : Int) < (y.length : Int)) = true := decide_eq_true (by omega)
     have hwj := wrap_succ hj (show (y.length : Int) < _ by omega)
     have hcp : (cpS 3 y).l = y := cpS_l
     have hin := tmS_in hps h2 hln hqm
     have f1 : ∀ ro, fcallOp (callL AP) ro (s.push ⟨bx ++ [[]], tk⟩) [[I 0, I 0]] (.fn 13) [.slice o' 3 (y.map rowPr)] = some ((cpS 3 y).v rowPr, s.push ⟨bx ++ [[]], tk⟩) := fun ro => fc_keep (hs.push _) (fun m _ => r_CopyPairs (x := ⟨o', 3, y⟩) (.inr rfl) (by simp only; omega)) (by rw [tail_push]; simp [fills])
     have f2 : ∀ ro, fcallOp (callL AP) ro (s.push ⟨bx ++ [[]], tk⟩) [[I 0, I 0]] (.fn 14) [(cpS 3 y).v rowPr, I q.cnt] = some (.tuple [.agg [I (tmS y q.cnt).2.1, I (tmS y q.cnt).2.2], I 0], s.push ⟨bx ++ [[]], tk⟩) := fun ro => fc_keep (hs.push _) (fun m hm => by
      have := TimeAt_in (x := cpS 3 y) (n := q.cnt) hm cpS_ok (by rw [hcp]; exact hps) (by rw [hcp]; exact h2) (by rw [hcp]; exact hln) hqo.c0 hqo.c1
      rw [hcp] at this
      exact this) (by rw [tail_push]; simp [fills])
     obtain ⟨S, hS⟩ : ∃ S, S = tmS y q.cnt := ⟨_, rfl⟩
     rw [← hS] at f2 hin
     have hfl : fillOp (s.push ⟨bx ++ [[I 0, I 0]], tk⟩) 1 2 (.ptr s.acts.length bx.length 0) (.agg [I S.2.1, I S.2.2]) = some (s.push ⟨bx ++ [[I S.2.1, I S.2.2]], tk⟩) := by
      rw [fill_ptr, if_pos (by simp)]
      simp (maxSteps := 1000000) only [go_sem, hs]
     have d2 : decide (S.2.1 < q.lo) = false := decide_eq_false (by omega)
     have d3 : decide (q.hi < S.2.2) = false := decide_eq_false (by omega)
     simp only [rowPr] at hixq
     generalize (cpS 3 y).v rowPr = CV at *
     simp (maxSteps := 1000000) only [go_sem, b_t_TopFrameClockSent_l1, g23, g24, lt_dec hj, d1, hixq, rep1, f1, f2, slot_last, hfl, d2, d3, hwj, Nat.reduceEqDiff, Nat.reduceAdd, ↓reduceIte, ne_eq, not_true]
     exact ih2 _ _ ⟨g15, g18, g20, g21, g23, rfl, _, n, g22, box_app hn, rfl⟩
    ·rintro ρ m ⟨g15, g18, g20, g21, g23, g24, bx, n, g22, hn, rfl⟩
     have hcond : (decide (((if 2 ≤ y.length then y.length else 0 : Nat) : Int) < (y.length : Int)) && decide ((1 : Int) < (y.length : Int))) = false := by
      by_cases h2 : 2 ≤ y.length
      ·rw [if_pos h2]; simp
      ·rw [if_neg h2, decide_eq_false (show ¬ (1 : Int) < (y.length : Int) by omega), Bool.and_false]
     generalize ((if 2 ≤ y.length then y.length else 0 : Nat) : Int) = J at *
     have hn' : ∀ T, (bx ++ T)[n]? = some (rowN p) := fun T => box_app hn
     have hr2 : ∀ ρ', ρ' 15 = .slice o 3 (l.map rowPr) → ρ' 18 = .slice .any 2 (out.map rowN) → ρ' 20 = I (p.2 + 1 : Nat) → ρ' 21 = I k → ρ' 22 = .ptr s.acts.length n 0 →
       go AP f_t_TopFrameClockSent (.c b_t_TopFrameClockSent_r2 :: .blk 7 :: .c b_t_TopFrameClockSent_r1 :: .lp b_t_TopFrameClockSent_l0 :: k_t_TopFrameClockSent_0) ⟨ρ', s.push ⟨bx, tk⟩⟩ = some (B true, s) := by
      intro ρ' q15 q18 q20 q21 q22
      have hnk : nxtP out (k + 1) = p.2 + 1 := by simp only [nxtP, hp]
      rw [← hnk] at q20
      have ih4 : ∀ ρ' bx, ρ' 15 = .slice o 3 (l.map rowPr) → ρ' 18 = .slice .any 2 (out.map rowN) → ρ' 20 = I (nxtP out (k + 1)) → ρ' 21 = I (k + 1 : Nat) → go AP f_t_TopFrameClockSent (.c (.loop b_t_TopFrameClockSent_l0) :: k_t_TopFrameClockSent_0) ⟨ρ', s.push ⟨bx, tk⟩⟩ = some (B true, s) := fun ρ' bx a1 a2 a3 a4 => ih ρ' _ ⟨a1, a2, a3, a4, bx, rfl⟩
      clear ih
      cases k with
      | zero =>
       have q21' : ρ' 21 = I 0 := q21
       have hwk' : IntKind.i64.wrap (0 + 1) = ((0 + 1 : Nat) : Int) := by decide
       have d0 : decide ((0 : Int) < 0) = false := by decide
       clear q21 hwk
       simp (maxSteps := 1000000) only [go_sem, b_t_TopFrameClockSent_r2, b_t_TopFrameClockSent_r1, q21', Nat.reduceEqDiff, Int.reduceLT, Int.reduceLE, Int.reduceAdd, Int.reduceNeg, ↓reduceIte]
       exact ih4 _ _ (by exact q15) (by exact q18) (by exact q20) (by rfl)
      | succ k =>
       obtain ⟨pp, hpp⟩ := get_some (l := out) (k := k) (by omega)
       obtain ⟨hn2, hcl⟩ := hg.nxt k pp p hpp hp
       obtain ⟨hpp1, hpp2⟩ := hg.le k pp hpp
       have hixp : indexAddrOp none 2 (.slice .any 2 (out.map rowN)) (I (k : Int)) = some (.eptr (rowN pp) 0) := ix_map hpp
       have w5 : IntKind.i64.wrap (((k + 1 : Nat) : Int) - 1) = (k : Int) := by rw [wrap_id (by omega) (by omega)]; omega
       have d0 : decide ((0 : Int) < ((k + 1 : Nat) : Int)) = true := decide_eq_true (by omega)
       obtain ⟨o2, hsl2⟩ := sl_rngE (l := l) ho (lo := pp.1) (hi := p.1 + 1) (by omega) (by omega)
       have hlen2 := subL_len (l := l) (a := pp.1) (b := p.1 + 1) (by omega)
       have hps2 := subL_ps h (show pp.1 < p.1 + 1 by omega) (show p.1 + 1 ≤ l.length by omega)
       obtain ⟨y2, hy2⟩ : ∃ y2, y2 = subL l pp.1 (p.1 + 1) := ⟨_, rfl⟩
       rw [← hy2] at hsl2 hlen2 hps2 hcl
       obtain ⟨q0, hq0⟩ := get_some (l := y2) (k := 0) (by omega)
       have hqo := hps2.ok q0 (List.mem_of_getElem? hq0)
       have hix0 : indexAddrOp none 3 (.slice o2 3 (y2.map rowPr)) (I 0) = some (.eptr (rowPr q0) 0) := ix_map (k := 0) hq0
       have hcp : (cpS 3 y2).l = y2 := cpS_l
       have f1 : ∀ ro, fcallOp (callL AP) ro (s.push ⟨bx ++ [[]], tk⟩) [[I 0, I 0]] (.fn 13) [.slice o2 3 (y2.map rowPr)] = some ((cpS 3 y2).v rowPr, s.push ⟨bx ++ [[]], tk⟩) := fun ro => fc_keep (hs.push _) (fun m _ => r_CopyPairs (x := ⟨o2, 3, y2⟩) (.inr rfl) (by simp only; omega)) (by rw [tail_push]; simp [fills])
       have f2 : ∀ ro, fcallOp (callL AP) ro (s.push ⟨bx ++ [[]], tk⟩) [[I 0, I 0]] (.fn 14) [(cpS 3 y2).v rowPr, I q0.cnt] = some (.tuple [.agg [I 0, I 0], I 13], s.push ⟨bx ++ [[]], tk⟩) := fun ro => fc_keep (hs.push _) (fun m hm => TimeAt_clash (x := cpS 3 y2) hm cpS_ok (by rw [hcp]; exact hps2) (by rw [hcp]; omega) (by rw [hcp]; exact hcl) hqo.c0 hqo.c1) (by rw [tail_push]; simp [fills])
       have hfl : fillOp (s.push ⟨bx ++ [[I 0, I 0]], tk⟩) 1 2 (.ptr s.acts.length bx.length 0) (.agg [I 0, I 0]) = some (s.push ⟨bx ++ [[I 0, I 0]], tk⟩) := by
        rw [fill_ptr, if_pos (by simp)]
        simp (maxSteps := 1000000) only [go_sem, hs]
       have d13 : decide ((13 : Int) ≠ 13) = false := by decide
       simp only [rowPr, rowN] at hix0 hixp hn hn'
       generalize (cpS 3 y2).v rowPr = CV at *
       simp (maxSteps := 1000000) only [go_sem, b_t_TopFrameClockSent_r2, b_t_TopFrameClockSent_r1, q15, q18, q21, q22, d0, w5, hixp, hn, w3, hsl2, rep1, f1, f2, hix0, slot_last, hfl, hwk, Nat.reduceEqDiff, Nat.reduceAdd, ↓reduceIte, ne_eq, not_true]
       exact ih4 _ _ (by exact q15) (by exact q18) (by exact q20) (by rfl)
     clear ih
     cases hd1 : decide (J < (y.length : Int)) with
     | true =>
      rw [hd1, Bool.true_and] at hcond
      simp (maxSteps := 1000000) only [go_sem, b_t_TopFrameClockSent_l1, g23, g24, hd1, hcond, Nat.reduceEqDiff, ↓reduceIte]
      exact hr2 _ g15 g18 g20 g21 g22
     | false =>
      simp (maxSteps := 1000000) only [go_sem, b_t_TopFrameClockSent_l1, g23, g24, hd1, Nat.reduceEqDiff, ↓reduceIte]
      exact hr2 _ g15 g18 g20 g21 g22
   have z0 : ∀ ρ' bx', ρ' 15 = .slice o 3 (l.map rowPr) → ρ' 18 = .slice .any 2 (out.map rowN) → ρ' 20 = I (p.2 + 1 : Nat) → ρ' 21 = I k → ρ' 23 = .slice o' 3 (y.map rowPr) → ρ' 24 = I 0 → ρ' 22 = .ptr s.acts.length bx.length 0 → bx' = bx ++ [rowN p] → go AP f_t_TopFrameClockSent (.c (.loop b_t_TopFrameClockSent_l1) :: k_t_TopFrameClockSent_1) ⟨ρ', s.push ⟨bx', tk⟩⟩ = some (B true, s) := fun ρ' bx' a1 a2 a3 a4 a5 a6 a7 hb => by
    subst hb
    exact inner 0 ρ' _ (Nat.zero_le _) ⟨a1, a2, a3, a4, a5, a6, _, bx.length, a7, by simp, rfl⟩
   clear inner ih
   rw [hnx] at g20
   simp only [rowN] at hix z0
   simp (maxSteps := 1000000) only [go_sem, b_t_TopFrameClockSent_l0, g15, g18, g20, g21, hs, lt_dec hk, hix, e1, w1, w2, hsl, Nat.reduceEqDiff, Nat.reduceAdd, ↓reduceIte, ne_eq, not_true]
   exact z0 _ _ (by exact g15) (by exact g18) (by rfl) (by exact g21) (by rfl) (by rfl) (by rfl) (by rfl)
  ·rintro ρ m ⟨g15, g18, g20, g21, bx, rfl⟩
   have he := nxt_end hg (by omega)
   rw [he] at g20
   simp (maxSteps := 1000000) only [go_sem, b_t_TopFrameClockSent_l0, b_t_TopFrameClockSent_r0, g15, g18, g20, g21, ge_dec, Nat.reduceEqDiff, ↓reduceIte]
 exact key 0 _ _ (Nat.zero_le _) ⟨h15, h18, h20, h21, bx, rfl⟩
end
end Go.Ax.Sx.Ck

namespace Go.Ax.Sx.Ck
open Go.Ax
set_option linter.unusedSimpArgs false
set_option linter.unusedVariables false
set_option maxRecDepth 100000
section
variable {s : Sig}
theorem seg_r3 {l prs : List Pr} {X : AV} {og : Option Nat} (hs : Ok s) (hp : ∀ p ∈ prs, p.Ok) (ha : AscP prs) (hn : prs.length ≤ 12) {ρ : Nat → AV} {bx : List (List AV)} {tk : List (Option Nat)}
  (h15 : ρ 15 = X) (hA : Acc s.acts.length 3 (prs.map rowPr) X og tk) :
  go AP f_t_TopFrameClockSent [.c b_t_TopFrameClockSent_r3] ⟨ρ, s.push ⟨bx, tk⟩⟩ = some (B true, s) := by
 have hlen := hA.len
 rw [List.length_map] at hlen
 cases og with
 | none =>
  obtain ⟨h0, rfl⟩ := hA
  simp (maxSteps := 1000000) only [go_sem, b_t_TopFrameClockSent_r3, h15, Int.cast_ofNat_Int, ↓reduceIte]
 | some g =>
  obtain ⟨hne, rfl, _⟩ := hA
  have hne' : prs ≠ [] := by intro e; rw [e] at hne; exact hne rfl
  have h1 : 1 ≤ prs.length := by
   cases prs with
   | nil => exact absurd rfl hne'
   | cons a r => simp
  have hps : PsOk prs := ⟨h1, by omega, hp, ha⟩
  have hcp : (cpS 3 prs).l = prs := cpS_l
  have hg := pcs_good (l := prs) (n := prs.length) (Nat.le_refl _)
  have e1 : ∀ m, callL AP (.fn 13) [.slice (.tok s.acts.length g) 3 (prs.map rowPr)] m = some ((cpS 3 prs).v rowPr, m) := fun m => r_CopyPairs (x := ⟨.tok s.acts.length g, 3, prs⟩) (.inr rfl) (by simp only; omega)
  have e2 : ∀ r, callL AP (.fn 12) [(cpS 3 prs).v rowPr] (s.push r) = some (.tuple [.slice .any 2 ((pcsL prs prs.length).map rowN), I 0], s.push r) := fun r => by
   have := frame_PiecesOf (x := cpS 3 prs) (hs.push r) cpS_ok (by rw [hcp]; exact hps)
   rw [hcp] at this; exact this
  have hol := hg.len
  have ho1 : 1 ≤ (pcsL prs prs.length).length := by
   rcases hg.last with ⟨h, _⟩ | ⟨i, p, h, _⟩
   ·omega
   ·rw [h]; simp
  have d1 : decide ((prs.length : Int) = 0) = false := decide_eq_false (by omega)
  have d2 : decide (((pcsL prs prs.length).length : Int) = 0) = false := decide_eq_false (by omega)
  have d3 : decide ((prs.length : Int) < ((pcsL prs prs.length).length : Int)) = false := decide_eq_false (by omega)
  have z0 : ∀ ρ', ρ' 15 = .slice (.tok s.acts.length g) 3 (prs.map rowPr) → ρ' 18 = .slice .any 2 ((pcsL prs prs.length).map rowN) → ρ' 20 = I 0 → ρ' 21 = I 0 → go AP f_t_TopFrameClockSent (.c (.loop b_t_TopFrameClockSent_l0) :: k_t_TopFrameClockSent_0) ⟨ρ', s.push ⟨bx, tk⟩⟩ = some (B true, s) := fun ρ' a b c d => seg_pieces hs rfl hps a b c d
  generalize (cpS 3 prs).v rowPr = CV at *
  generalize pcsL prs prs.length = out at *
  simp (maxSteps := 1000000) only [go_sem, b_t_TopFrameClockSent_r3, h15, e1, e2, d1, d2, d3, Nat.reduceEqDiff, ↓reduceIte, ne_eq, not_true]
  exact z0 _ (by exact h15) (by rfl) (by rfl) (by rfl)
theorem seg_pairs {l : Sl Pr} {ex : List Pk} {prs : List Pr} (hs : Ok s) (hl : l.l = [] ∨ l.e = 3) (hp : ∀ p ∈ l.l, p.Ok) (hn : l.l.length ≤ 12) (ha : AscP prs) (h1 : prs.length = ex.length) (h2 : prs.length ≤ l.l.length) (h3 : ∀ p ∈ prs, p ∈ l.l) (h4 : ∀ (m : Nat) (q : Pk), ex[m]? = some q → ∃ p, prs[m]? = some p ∧ CarryP l.l q p)
  {ρ : Nat → AV} {bx : List (List AV)} {tk : List (Option Nat)} (g1 : ρ 1 = l.v rowPr) (g13 : ρ 13 = (acS 3 ex).v rowPk) (g15 : ρ 15 = .slice .nilS 0 []) (g16 : ρ 16 = I 0) :
  go AP f_t_TopFrameClockSent (.c (.loop b_t_TopFrameClockSent_l2) :: k_t_TopFrameClockSent_2) ⟨ρ, s.push ⟨bx, tk⟩⟩ = some (B true, s) := by
 have hexl : (acS 3 ex).l = ex := acS_l
 have key : ∀ (k : Nat) ρ m, k ≤ ex.length → (ρ 1 = l.v rowPr ∧ ρ 13 = (acS 3 ex).v rowPk ∧ ρ 16 = I k ∧ ∃ X og tk bx, Acc s.acts.length 3 ((prs.take k).map rowPr) X og tk ∧ ρ 15 = X ∧ m = s.push ⟨bx, tk⟩) →
   go AP f_t_TopFrameClockSent (.c (.loop b_t_TopFrameClockSent_l2) :: k_t_TopFrameClockSent_2) ⟨ρ, m⟩ = some (B true, s) := by
  refine loop_up ex.length _ (fun _ => some (B true, s)) ?_ ?_
  ·rintro k ρ m hk ⟨g1, g13, g16, X, og, tk, bx, hA, g15, rfl⟩ ih
   obtain ⟨q, hq⟩ := get_some hk
   obtain ⟨p, hpk, hd, hdl, kk, hc, hkk⟩ := h4 k q hq
   have hkl := (List.getElem?_eq_some_iff.1 hkk).1
   have hpo := hp p (List.mem_of_getElem? hkk)
   have hwk := wrap_succ hk (show (ex.length : Int) < _ by omega)
   have hix : indexAddrOp none 3 ((acS 3 ex).v rowPk) (I (k : Int)) = some (.eptr (rowPk q) 0) := Sl.ix (f := rowPk) acS_ok (by rw [hexl]; exact hq)
   have hixl : indexAddrOp none 3 (l.v rowPr) (I (kk : Int)) = some (.eptr (rowPr p) 0) := ixE (f := rowPr) hl hkk
   have w1 : IntKind.i64.wrap ((l.l.length : Int) - 1) = (l.l.length : Int) - 1 := wrap_id (by omega) (by omega)
   have e1 : ∀ m, callL AP (.fn 11) [I (kk : Int), I 0, I ((l.l.length : Int) - 1)] m = some (B true, m) := fun m => by rw [b_Within, wi_t (by omega) (by omega)]
   have hi0 : indexAddrOp none 1 (q.data.v rowI) (I 0) = some (.eptr [I (p.cnt / 256)] 0) := Sl.ix (k := 0) (f := rowI) hd (by rw [hdl]; rfl)
   have hi1 : indexAddrOp none 1 (q.data.v rowI) (I 1) = some (.eptr [I (p.cnt % 256)] 0) := Sl.ix (k := 1) (f := rowI) hd (by rw [hdl]; rfl)
   have hlen2 : lenOp false (q.data.v rowI) = some (I 2) := by
    have : lenOp false (q.data.v rowI) = some (I (q.data.l.length : Int)) := by simp [lenOp]
    rw [this, hdl]; rfl
   have hc0 := hpo.c0
   have hc1 := hpo.c1
   have w2 : IntKind.i64.wrap (256 * (p.cnt / 256)) = 256 * (p.cnt / 256) := wrap_id (by omega) (by omega)
   have w3 : IntKind.i64.wrap (256 * (p.cnt / 256) + p.cnt % 256) = p.cnt := by rw [wrap_id (by omega) (by omega)]; omega
   have hlx : lenOp false ((acS 3 ex).v rowPk) = some (I (ex.length : Int)) := by
    have : lenOp false ((acS 3 ex).v rowPk) = some (I ((acS 3 ex).l.length : Int)) := by simp [lenOp]
    rw [this, hexl]
   have htk : ((prs.take k).map rowPr).length ≤ 12 := by simp; omega
   obtain ⟨x9, og9, tk9, ha1, ha2, _, _⟩ := hA.append hs .full (ys := [rowPr p]) (by simp) (by simp; omega)
   have hA' : Acc s.acts.length 3 ((prs.take (k + 1)).map rowPr) x9 og9 tk9 := by rw [take_get hpk, List.map_append]; exact ha2
   have dd : decide (¬ p.cnt = p.cnt) = false := by simp
   simp only [rowPk] at hix
   rw [hc] at hix
   simp only [rowPr, Sl.v] at hixl ha1 g1
   generalize q.data.v rowI = DV at *
   generalize (acS 3 ex).v rowPk = EV at *
   simp (maxSteps := 1000000) only [go_sem, b_t_TopFrameClockSent_l2, g1, g13, g15, g16, hlx, lt_dec hk, hix, e1, w1, hlen2, hi0, hi1, w2, w3, hixl, ha1, hwk, Nat.reduceEqDiff, Nat.reduceAdd, ↓reduceIte, ne_eq, not_true]
   exact ih _ _ ⟨by simp only [Sl.v]; exact g1, g13, rfl, x9, og9, tk9, _, hA', rfl, rfl⟩
  ·rintro ρ m ⟨g1, g13, g16, X, og, tk, bx, hA, g15, rfl⟩
   rw [← h1, List.take_length] at hA
   have hlx : lenOp false ((acS 3 ex).v rowPk) = some (I (ex.length : Int)) := by
    have : lenOp false ((acS 3 ex).v rowPk) = some (I ((acS 3 ex).l.length : Int)) := by simp [lenOp]
    rw [this, hexl]
   have hr3 := fun ρ h15 => seg_r3 (l := l.l) (bx := bx) (ρ := ρ) hs (fun p hp' => hp p (h3 p hp')) ha (by omega) h15 hA
   generalize (acS 3 ex).v rowPk = EV at *
   simp (maxSteps := 1000000) only [go_sem, b_t_TopFrameClockSent_l2, g13, g16, hlx, ge_dec, Nat.reduceEqDiff, ↓reduceIte]
   exact hr3 _ g15
 exact key 0 _ _ (Nat.zero_le _) ⟨g1, g13, g16, _, none, tk, bx, Acc.start, g15, rfl⟩
end
end Go.Ax.Sx.Ck
