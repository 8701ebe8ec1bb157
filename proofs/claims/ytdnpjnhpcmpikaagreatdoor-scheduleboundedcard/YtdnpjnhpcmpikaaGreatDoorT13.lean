/- A part of the proof. -/
import Derived.Test.YtdnpjnhpcmpikaaGreatDoorT12
import Derived.Test.YtdnpjnhpcmpikaaGreatDoorT10
namespace Go.Ax.Sx.Sc
open Go.Ax
set_option linter.unusedSimpArgs false
set_option linter.unusedVariables false
set_option maxRecDepth 100000
section
variable {s : Sig} {w : W}
theorem grps_filter {f : Int → Bool} : ∀ {k : Nat} {l : List Int}, (grps k l).filter (fun g => g.all f) = grps k (l.filter f)
 | 0, l => by simp [grps]
 | k + 1, [] => rfl
 | k + 1, x :: r => by
  simp only [grps, List.filter_append]
  rw [grps_filter (k := k + 1) (l := r), List.filter_map]
  cases hx : f x with
  | true =>
   rw [List.filter_cons_of_pos hx]
   simp only [grps]
   rw [← grps_filter (k := k) (l := r)]
   congr 2
   apply List.filter_congr
   intro g _
   simp [Function.comp, hx]
  | false =>
   rw [List.filter_cons_of_neg (by simp [hx])]
   rw [List.filter_eq_nil_iff.2 (by intro g _; simp [Function.comp, hx])]
   rfl
theorem chV_ixS {n : Nat} {l g : List Int} {k : Nat} (h : (grps (n + 1) l)[k]? = some g) : indexAddrOp none 1 (chV (n + 1) l) (I k) = some (.eptr [(stS (n + 1) g).v rowI] 0) :=
 ix_acc (by rw [List.getElem?_map, h]; rfl)
def reS (n : Nat) (p : P) : P := ⟨p.req, p.start, stS n p.an.l⟩
theorem possAt_eq {i st : Int} : possAt w i st = ((grps (w.rq i).need.toNat (w.rq i).an.l).filter fun g => g.all fun a => openB w a st (w.rq i).len).map fun g => ⟨i, st, cpI g⟩ := by
 rw [grps_filter]; rfl
theorem r_Possible (hs : Ok s) (hw : Wk w) {i : Int} (h0 : 0 ≤ i) (h1 : i < w.rs.l.length) : callL AP (.fn 17) [w.v, I i] s = some (accV 3 (((poss w i).map (reS (w.rq i).need.toNat)).map rowP), s) := by
 have hq := hw.rq h0 h1
 have hn2 := hw.v.n2
 have hal := hw.v.al
 have hqm := W.rq_mem h0 h1
 have hqo := hw.ok.an _ hqm
 have hql := hw.few.an _ hqm
 have hlo0 := hq.lo0
 have hhin := hq.hin
 have hlohi := hq.lohi
 have hlenhi := hq.lenhi
 have hlen1 := hq.len1
 have hneed1 := hq.need1
 have hneed2 := hq.need2
 have hrs := ix_rs hw h0 h1
 obtain ⟨m, hm⟩ : ∃ m : Nat, (w.rq i).need = ((m + 1 : Nat) : Int) := ⟨((w.rq i).need - 1).toNat, by omega⟩
 have hmn : (w.rq i).need.toNat = m + 1 := by omega
 have hcnt := poss_count hw h0 h1
 have hpe : poss w i = possFrom w i (w.rq i).lo ((w.rq i).hi - (w.rq i).len + 2 - (w.rq i).lo).toNat := rfl
 have hpa : ∀ st, possAt w i st = ((grps (m + 1) (w.rq i).an.l).filter fun g => g.all fun a => openB w a st (w.rq i).len).map fun g => ⟨i, st, cpI g⟩ := fun st => by rw [possAt_eq, hmn]
 have hch : ∀ r, callL AP (.fn 39) [.slice (w.rq i).an.o (w.rq i).an.e ((w.rq i).an.l.map rowI), I (w.rq i).need] (s.push r) = some (chV (m + 1) (w.rq i).an.l, s.push r) := fun r => by
  rw [hm]; exact r_choices (m + 1) (hs.push r) hqo.1 (by omega) (by omega)
 have hanin := hq.anin
 rw [hmn]
 have hwr1 : IntKind.i64.wrap ((w.rq i).hi - (w.rq i).len) = (w.rq i).hi - (w.rq i).len := wrap_id (by omega) (by omega)
 have hwr2 : IntKind.i64.wrap ((w.rq i).hi - (w.rq i).len + 1) = (w.rq i).hi - (w.rq i).len + 1 := wrap_id (by omega) (by omega)
 generalize hqq : w.rq i = q at *
 have hsc : (grps (m + 1) q.an.l).length ≤ 64 := Nat.le_trans grps_count (Nat.pow_le_pow_right (show 0 < 2 by omega) hql)
 have outer : ∀ (st : Int) ρ x, (ρ 1 = I i ∧ ρ 2 = .ptr s.acts.length 0 0 ∧ ρ 5 = .ptr s.acts.length 1 0 ∧ ρ 6 = chV (m + 1) q.an.l ∧ ρ 8 = I st ∧ q.lo ≤ st ∧ st ≤ q.hi - q.len + 2 ∧ ∃ D y og tk bx, D ++ possFrom w i st (q.hi - q.len + 2 - st).toNat = poss w i ∧ Acc s.acts.length 3 ((D.map (reS (m + 1))).map rowP) y og tk ∧ ρ 7 = y ∧ x = s.push ⟨rowW w :: rowR q :: bx, tk⟩) →
   go AP f_r_Possible (.c (.loop b_r_Possible_l0) :: k_r_Possible_0) ⟨ρ, x⟩ = some (accV 3 (((poss w i).map (reS (m + 1))).map rowP), s) := by
  refine loop_upto (q.hi - q.len + 1) _ _ ?_ ?_
  ·rintro st ρ x hst ⟨g1, g2, g5, g6, g8, hst1, hst2, D, y, og, tk, bx, hD, hA, g7, rfl⟩ ih
   have hle : decide (st ≤ q.hi - q.len + 1) = true := by simp; omega
   have hwst : IntKind.i64.wrap (st + 1) = st + 1 := wrap_id (by omega) (by omega)
   have hsucc : (q.hi - q.len + 2 - st).toNat = (q.hi - q.len + 2 - (st + 1)).toNat + 1 := by omega
   rw [hsucc] at hD
   simp only [possFrom] at hD
   have inner : ∀ (j : Nat) ρ x, j ≤ (grps (m + 1) q.an.l).length → (ρ 1 = I i ∧ ρ 2 = .ptr s.acts.length 0 0 ∧ ρ 5 = .ptr s.acts.length 1 0 ∧ ρ 6 = chV (m + 1) q.an.l ∧ ρ 8 = I st ∧ ρ 9 = I j ∧ ∃ y og tk bx, Acc s.acts.length 3 (((D ++ (((grps (m + 1) q.an.l).take j).filter fun g => g.all fun a => openB w a st q.len).map fun g => (⟨i, st, cpI g⟩ : P)).map (reS (m + 1))).map rowP) y og tk ∧ ρ 7 = y ∧ x = s.push ⟨rowW w :: rowR q :: bx, tk⟩) →
     go AP f_r_Possible (.c (.loop b_r_Possible_l1) :: k_r_Possible_1) ⟨ρ, x⟩ = some (accV 3 (((poss w i).map (reS (m + 1))).map rowP), s) := by
    refine loop_up _ _ _ ?_ ?_
    ·rintro j ρ x hj ⟨g1, g2, g5, g6, g8, g9, y, og, tk, bx, hA, g7, rfl⟩ ih2
     obtain ⟨g, hg⟩ := get_some hj
     have hix := chV_ixS hg
     have hgm := grps_mem (List.mem_of_getElem? hg)
     have hgl := grps_len (List.mem_of_getElem? hg)
     have hp0 : PIn w ⟨i, st, stS (m + 1) g⟩ := ⟨h0, h1, by show 0 ≤ st; omega, by show st ≤ 200; omega, fun a ha => hanin a (hgm.subset ha), stS_ok, by show (g.length : Int) < _; omega⟩
     have hsh : ∀ r, callL AP (.fn 40) [w.v, .agg (rowP ⟨i, st, stS (m + 1) g⟩)] (s.push r) = some (B (!(g.all fun a => openB w a st q.len)), s.push r) := fun r => by
      rw [r_shut (hs.push r) hw hp0]
      simp only [hqq]
      rw [List.not_all_eq_any_not]; rfl
     have hcl : closeAll [I i, I st, (stS (m + 1) g).v rowI] = some (rowP ⟨i, st, stS (m + 1) g⟩) := by
      simp only [closeAll_cons, closeAll_nil, close_int, Sl.close (f := rowI) (stS_ok (n := m + 1) (g := g))]; rfl
     have hcn : ((grps (m + 1) q.an.l).length : Int) < 9223372036854775808 := by omega
     have hDl : D.length ≤ 13000 := by rw [← hD, List.length_append] at hcnt; omega
     have htk : ((grps (m + 1) q.an.l).take j).length ≤ 64 := by rw [List.length_take]; omega
     have hfl : (((grps (m + 1) q.an.l).take j).filter fun g => g.all fun a => openB w a st q.len).length ≤ 64 := Nat.le_trans (List.length_filter_le _ _) htk
     simp only [rowP, Sl.v, W.v, rowW] at hcl hsh hix
     cases hall : g.all fun a => openB w a st q.len with
     | false =>
      have hnx : ((grps (m + 1) q.an.l).take (j + 1)).filter (fun g => g.all fun a => openB w a st q.len) = ((grps (m + 1) q.an.l).take j).filter (fun g => g.all fun a => openB w a st q.len) := by
       rw [take_get hg, List.filter_append, List.filter_cons_of_neg (by simp [hall]), List.filter_nil, List.append_nil]
      rw [← hnx] at hA
      obtain ⟨oa, ea, ra, rfl⟩ := Acc.sl hA
      simp (maxSteps := 1000000) only [go_sem, b_r_Possible_l1, g1, g2, g6, g8, g9, hs, chV_len, lt_dec hj, hix, hsh, hall, Bool.not_false, wrap_succ hj hcn, Nat.reduceEqDiff, ↓reduceIte]
      refine ih2 _ _ ?_
      exact ⟨g1, g2, g5, g6, g8, rfl, _, og, tk, _, hA, g7, rfl⟩
     | true =>
      have hnx : (D ++ (((grps (m + 1) q.an.l).take (j + 1)).filter fun g => g.all fun a => openB w a st q.len).map fun g => (⟨i, st, cpI g⟩ : P)) = (D ++ (((grps (m + 1) q.an.l).take j).filter fun g => g.all fun a => openB w a st q.len).map fun g => (⟨i, st, cpI g⟩ : P)) ++ [⟨i, st, cpI g⟩] := by
       rw [take_get hg, List.filter_append, List.filter_cons_of_pos (by simp [hall]), List.filter_nil, List.map_append, List.append_assoc]; rfl
      obtain ⟨x2, og2, tk2, hb1, hb2, hb3, hb4⟩ := hA.append hs .full (ys := [rowP ⟨i, st, stS (m + 1) g⟩]) (by simp) (by rw [List.length_map, List.length_map, List.length_append, List.length_map, List.length_singleton]; omega)
      obtain ⟨oa, ea, ra, rfl⟩ := Acc.sl hA
      obtain ⟨ob, eb, rb, rfl⟩ := Acc.sl hb2
      simp only [rowP, Sl.v] at hb1
      simp (maxSteps := 1000000) only [go_sem, b_r_Possible_l1, g1, g2, g6, g7, g8, g9, hs, chV_len, lt_dec hj, hix, hcl, hsh, hall, hb1, Bool.not_true, wrap_succ hj hcn, Nat.reduceEqDiff, ↓reduceIte]
      refine ih2 _ _ ?_
      refine ⟨g1, g2, g5, g6, g8, rfl, _, og2, tk2, _, ?_, rfl, rfl⟩
      rw [hnx, List.map_append, List.map_append]; exact hb2
    ·rintro ρ x ⟨g1, g2, g5, g6, g8, g9, y, og, tk, bx, hA, g7, rfl⟩
     rw [List.take_length, ← hpa] at hA
     simp (maxSteps := 1000000) only [go_sem, b_r_Possible_l1, b_r_Possible_r1, g6, g8, g9, chV_len, ge_dec, hwst, Nat.reduceEqDiff, ↓reduceIte]
     refine ih _ _ ?_
     exact ⟨g1, g2, g5, g6, rfl, by omega, by omega, _, y, og, tk, bx, by rw [List.append_assoc]; exact hD, hA, g7, rfl⟩
   simp (maxSteps := 1000000) only [go_sem, b_r_Possible_l0, g5, g8, hwr1, hwr2, hle, Nat.reduceEqDiff, Nat.reduceAdd, ↓reduceIte]
   refine inner 0 _ _ (Nat.zero_le _) ?_
   refine ⟨g1, g2, g5, g6, g8, rfl, y, og, tk, bx, ?_, g7, rfl⟩
   rw [List.take_zero, List.filter_nil, List.map_nil, List.append_nil]; exact hA
  ·rintro st ρ x hst ⟨g1, g2, g5, g6, g8, hst1, hst2, D, y, og, tk, bx, hD, hA, g7, rfl⟩
   have hle : decide (st ≤ q.hi - q.len + 1) = false := by simp; omega
   have hz : (q.hi - q.len + 2 - st).toNat = 0 := by omega
   rw [hz] at hD
   simp only [possFrom, List.append_nil] at hD
   rw [hD] at hA
   have hlv := fun q : Sig => hA.leave q
   obtain ⟨oa, ea, ra, rfl⟩ := Acc.sl hA
   simp (maxSteps := 1000000) only [go_sem, b_r_Possible_l0, b_r_Possible_r0, g5, g7, g8, hwr1, hwr2, hle, hlv, Nat.reduceEqDiff, Nat.reduceAdd, ↓reduceIte]
 rw [callL_go (show AP 17 = some c_r_Possible from rfl) rfl]
 simp only [rowR, Sl.v] at hrs hch
 simp (maxSteps := 1000000) only [go_sem, b_r_Possible, hs, hrs, hch, Nat.reduceEqDiff, Nat.reduceAdd, ↓reduceIte]
 refine outer q.lo _ _ ?_
 refine ⟨rfl, rfl, rfl, rfl, rfl, by omega, by omega, [], _, none, [], [], ?_, Acc.start, rfl, rfl⟩
 rw [List.nil_append, hpe]
end
end Go.Ax.Sx.Sc

namespace Go.Ax.Sx.Sc
open Go.Ax
set_option linter.unusedSimpArgs false
set_option linter.unusedVariables false
set_option maxRecDepth 100000
section
variable {s : Sig} {w : W}
end
end Go.Ax.Sx.Sc

namespace Go.Ax.Sx.Sc
open Go.Ax
set_option linter.unusedSimpArgs false
set_option linter.unusedVariables false
set_option maxRecDepth 100000
section
variable {s : Sig} {w : W}
end
end Go.Ax.Sx.Sc

namespace Go.Ax.Sx.Sc
open Go.Ax
set_option linter.unusedSimpArgs false
set_option linter.unusedVariables false
set_option maxRecDepth 100000
section
variable {w : W}
end
end Go.Ax.Sx.Sc

namespace Go.Ax.Sx.Sc
open Go.Ax
set_option linter.unusedSimpArgs false
set_option linter.unusedVariables false
set_option maxRecDepth 100000
section
variable {w : W}
theorem possAt_c {i st : Int} (h0 : 0 ≤ i) (h1 : i < w.rs.l.length) : possAt (cW w) i st = possAt w i st := by
 unfold possAt readyA
 rw [cW_rq h0 h1]
 simp only [openB_c]
 rfl
theorem possFrom_c {i : Int} (h0 : 0 ≤ i) (h1 : i < w.rs.l.length) : ∀ {n : Nat} {st : Int}, possFrom (cW w) i st n = possFrom w i st n
 | 0, _ => rfl
 | n + 1, st => by simp only [possFrom]; rw [possAt_c h0 h1, possFrom_c h0 h1]
theorem poss_c {i : Int} (h0 : 0 ≤ i) (h1 : i < w.rs.l.length) : poss (cW w) i = poss w i := by
 unfold poss
 rw [possFrom_c h0 h1, cW_rq h0 h1]; rfl
end
end Go.Ax.Sx.Sc

namespace Go.Ax.Sx.Sc
open Go.Ax
set_option linter.unusedSimpArgs false
set_option linter.unusedVariables false
set_option maxRecDepth 100000
section
variable {w : W}
end
end Go.Ax.Sx.Sc

namespace Go.Ax.Sx.Sc
open Go.Ax
set_option linter.unusedSimpArgs false
set_option linter.unusedVariables false
set_option maxRecDepth 100000
section
variable {w : W}
end
end Go.Ax.Sx.Sc

namespace Go.Ax.Sx.Sc
open Go.Ax
set_option linter.unusedSimpArgs false
set_option linter.unusedVariables false
set_option maxRecDepth 100000
section
variable {w : W}
theorem mems_iff {m : Nat} {i : Int} (hm : m < 2 ^ 62) : i ∈ mems m ↔ 0 ≤ i ∧ m.testBit i.toNat = true := by
 unfold mems memsUp
 simp only [List.mem_map, List.mem_filter, List.mem_range]
 constructor
 ·rintro ⟨k, ⟨h1, h2⟩, rfl⟩; exact ⟨by omega, by simpa using h2⟩
 ·rintro ⟨h0, h1⟩
  refine ⟨i.toNat, ⟨?_, h1⟩, by omega⟩
  apply Classical.byContradiction
  intro h
  have : m < 2 ^ i.toNat := Nat.lt_of_lt_of_le hm (Nat.pow_le_pow_right (by decide) (by omega))
  rw [Nat.testBit_lt_two_pow this] at h1
  exact absurd h1 (by decide)
theorem mems_asc {m : Nat} : (mems m).Pairwise (· < ·) := by
 unfold mems memsUp
 rw [List.pairwise_map]
 refine (List.Pairwise.filter _ List.pairwise_lt_range).imp fun h => by omega
end
end Go.Ax.Sx.Sc

namespace Go.Ax.Sx.Sc
open Go.Ax
set_option linter.unusedSimpArgs false
set_option linter.unusedVariables false
set_option maxRecDepth 100000
section
variable {w : W}
structure VP (w : W) (R : List P) : Prop where
 mem : ∀ p ∈ R, 0 ≤ p.req ∧ p.req < w.rs.l.length ∧ p ∈ poss w p.req
 asc : R.Pairwise fun a b => a.req < b.req
 nc : R.Pairwise fun a b => conf w a b = false
theorem VP.nil : VP w [] := ⟨fun _ h => absurd h (by simp), List.Pairwise.nil, List.Pairwise.nil⟩
theorem VP.pin (hw : Wk w) {R : List P} (h : VP w R) : ∀ p ∈ R, PIn w p := fun p hp => by
 obtain ⟨h0, h1, h2⟩ := h.mem p hp
 exact (poss_in hw h0 h1 h2).1
theorem VP.pre {a b : List P} (h : VP w (a ++ b)) : VP w a :=
 ⟨fun p hp => h.mem p (List.mem_append_left _ hp), (List.pairwise_append.1 h.asc).1, (List.pairwise_append.1 h.nc).1⟩
theorem own_bit : ∀ {R : List P} {o i : Nat}, (R.foldl (fun o p => o ||| 2 ^ p.req.toNat) o).testBit i = (o.testBit i || R.any fun p => decide (p.req.toNat = i))
 | [], o, i => by simp
 | p :: r, o, i => by
  rw [List.foldl_cons, own_bit (R := r), Nat.testBit_or, Nat.testBit_two_pow, List.any_cons, Bool.or_assoc]
theorem ownM_bit {R : List P} {i : Nat} : (ownM R).testBit i = R.any fun p => decide (p.req.toNat = i) := by
 unfold ownM
 rw [own_bit]; simp
theorem ownM_lt2 {R : List P} {n : Nat} (h : ∀ p ∈ R, p.req.toNat < n) : ownM R < 2 ^ n := by
 apply Nat.lt_pow_two_of_testBit
 intro i hi
 rw [ownM_bit, List.any_eq_false]
 intro p hp
 have := h p hp
 simp; omega
theorem sumV_map {w : W} : ∀ {R : List P}, sumV w (R.map (·.req)) = valP w R
 | [] => rfl
 | p :: r => by simp only [List.map_cons, sumV, valP]; rw [sumV_map]
theorem asc_eq : ∀ {a b : List Int}, a.Pairwise (· < ·) → b.Pairwise (· < ·) → (∀ x, x ∈ a ↔ x ∈ b) → a = b
 | [], [], _, _, _ => rfl
 | [], y :: b, _, _, h => absurd ((h y).2 (by simp)) (by simp)
 | x :: a, [], _, _, h => absurd ((h x).1 (by simp)) (by simp)
 | x :: a, y :: b, ha, hb, h => by
  have h1 := List.pairwise_cons.1 ha
  have h2 := List.pairwise_cons.1 hb
  have hxy : x = y := by
   rcases List.mem_cons.1 ((h x).1 (by simp)) with e | e
   ·exact e
   ·rcases List.mem_cons.1 ((h y).2 (by simp)) with e2 | e2
    ·exact Eq.symm e2
    ·have := h1.1 y e2; have := h2.1 x e; omega
  subst hxy
  congr 1
  refine asc_eq h1.2 h2.2 fun z => ?_
  constructor
  ·intro hz
   rcases List.mem_cons.1 ((h z).1 (List.mem_cons_of_mem _ hz)) with e | e
   ·subst e; have := h1.1 z hz; omega
   ·exact e
  ·intro hz
   rcases List.mem_cons.1 ((h z).2 (List.mem_cons_of_mem _ hz)) with e | e
   ·subst e; have := h2.1 z hz; omega
   ·exact e
theorem VP.own_lt {R : List P} (h : VP w R) : ownM R < 2 ^ w.rs.l.length := ownM_lt2 fun p hp => by have := (h.mem p hp).1; have := (h.mem p hp).2.1; omega
theorem VP.reqs (hw : Wk w) {R : List P} (h : VP w R) : mems (ownM R) = R.map (·.req) := by
 have hrl := hw.v.rl
 have hlt : ownM R < 2 ^ 62 := Nat.lt_of_lt_of_le h.own_lt (Nat.pow_le_pow_right (by decide) (by omega))
 refine asc_eq mems_asc (by rw [List.pairwise_map]; exact h.asc) fun x => ?_
 rw [mems_iff hlt, ownM_bit, List.any_eq_true]
 simp only [List.mem_map, decide_eq_true_eq]
 constructor
 ·rintro ⟨h0, p, hp, he⟩
  have := (h.mem p hp).1
  exact ⟨p, hp, by omega⟩
 ·rintro ⟨p, hp, rfl⟩
  exact ⟨(h.mem p hp).1, p, hp, rfl⟩
theorem VP.val (hw : Wk w) {R : List P} (h : VP w R) : worthB w (ownM R) = valP w R := by
 unfold worthB
 rw [h.reqs hw, sumV_map]
end
end Go.Ax.Sx.Sc

namespace Go.Ax.Sx.Sc
open Go.Ax
set_option linter.unusedSimpArgs false
set_option linter.unusedVariables false
set_option maxRecDepth 100000
section
variable {w : W}
theorem VP.sep (hw : Wk w) {R : List P} (h : VP w R) {p q : P} (hp : p ∈ R) (hq : q ∈ R) (hne : p.req ≠ q.req) : conf w p q = false := by
 obtain ⟨i, hi⟩ := List.getElem?_of_mem hp
 obtain ⟨j, hj⟩ := List.getElem?_of_mem hq
 obtain ⟨hil, hie⟩ := List.getElem?_eq_some_iff.1 hi
 obtain ⟨hjl, hje⟩ := List.getElem?_eq_some_iff.1 hj
 have hpw := List.pairwise_iff_getElem.1 h.nc
 rcases Nat.lt_trichotomy i j with hij | hij | hij
 ·have := hpw i j hil hjl hij
  rwa [hie, hje] at this
 ·subst hij
  rw [hi] at hj; injection hj with hj
  exact absurd (by rw [hj]) hne
 ·have := hpw j i hjl hil hij
  rw [hie, hje] at this
  rw [conf_symm hw (h.pin hw p hp) (h.pin hw q hq)]; exact this
end
end Go.Ax.Sx.Sc

namespace Go.Ax.Sx.Sc
open Go.Ax
set_option linter.unusedSimpArgs false
set_option linter.unusedVariables false
set_option maxRecDepth 100000
section
variable {w : W}
end
end Go.Ax.Sx.Sc

namespace Go.Ax.Sx.Sc
open Go.Ax
set_option linter.unusedSimpArgs false
set_option linter.unusedVariables false
set_option maxRecDepth 100000
section
variable {w : W}
end
end Go.Ax.Sx.Sc

namespace Go.Ax.Sx.Sc
open Go.Ax
set_option linter.unusedSimpArgs false
set_option linter.unusedVariables false
set_option maxRecDepth 100000
section
variable {w : W}
end
end Go.Ax.Sx.Sc

namespace Go.Ax.Sx.Sc
open Go.Ax
set_option linter.unusedSimpArgs false
set_option linter.unusedVariables false
set_option maxRecDepth 100000
section
variable {s : Sig} {w : W}
end
end Go.Ax.Sx.Sc

namespace Go.Ax.Sx.Sc
open Go.Ax
set_option linter.unusedSimpArgs false
set_option linter.unusedVariables false
set_option maxRecDepth 100000
section
variable {s : Sig} {w : W}
end
end Go.Ax.Sx.Sc

namespace Go.Ax.Sx.Sc
open Go.Ax
set_option linter.unusedSimpArgs false
set_option linter.unusedVariables false
set_option maxRecDepth 100000
section
variable {s : Sig} {w : W}
end
end Go.Ax.Sx.Sc

namespace Go.Ax.Sx.Sc
open Go.Ax
set_option linter.unusedSimpArgs false
set_option linter.unusedVariables false
set_option maxRecDepth 100000
section
variable {s : Sig} {w : W}
end
end Go.Ax.Sx.Sc

namespace Go.Ax.Sx.Sc
open Go.Ax
set_option linter.unusedSimpArgs false
set_option linter.unusedVariables false
set_option maxRecDepth 100000
section
variable {s : Sig} {w : W}
def AG (d es : Nat) (xs : List (List AV)) (x : AV) (tk : List (Option Nat)) : Prop :=
 x = .slice .full es xs ∨ ∃ g, x = .slice (.tok d g) es xs ∧ tk[g]? = some (some xs.length)
theorem AG.sl {d es : Nat} {xs : List (List AV)} {x : AV} {tk : List (Option Nat)} (h : AG d es xs x tk) : ∃ o, x = .slice o es xs := by
 rcases h with h | ⟨g, h, _⟩
 ·exact ⟨_, h⟩
 ·exact ⟨_, h⟩
theorem AG.ext {d es : Nat} {xs : List (List AV)} {x : AV} {tk tk' : List (Option Nat)} (h : AG d es xs x tk) (hx : ∀ (g : Nat) (n : Option Nat), tk[g]? = some n → tk'[g]? = some n) : AG d es xs x tk' := by
 rcases h with h | ⟨g, h, hg⟩
 ·exact .inl h
 ·exact .inr ⟨g, h, hx _ _ hg⟩
theorem AG.append {es : Nat} {xs : List (List AV)} {x : AV} {tk : List (Option Nat)} (h : AG s.acts.length es xs x tk) (hs : Ok s) (o : Own) {ys : List (List AV)} (hy : ys ≠ []) (hl : xs.length + ys.length ≤ 4294967296) :
  ∃ x' tk', (∀ bx, appendOp (s.push ⟨bx, tk⟩) es x (.slice o es ys) = some (x', s.push ⟨bx, tk'⟩)) ∧ AG s.acts.length es (xs ++ ys) x' tk' := by
 have hy' : ys.isEmpty = false := by cases ys <;> simp_all
 rcases h with rfl | ⟨g, rfl, hg⟩
 ·refine ⟨.slice (.tok s.acts.length tk.length) es (xs ++ ys), tk ++ [some (xs.length + ys.length)], fun bx => ?_, .inr ⟨tk.length, rfl, by simp⟩⟩
  simp [appendOp, hy', Own.isNil, most, hl, ntok_push, addTok_push, cur_push]
 ·refine ⟨.slice (.tok s.acts.length g) es (xs ++ ys), tk.set g (some (xs.length + ys.length)), fun bx => ?_, .inr ⟨g, rfl, ?_⟩⟩
  ·simp [appendOp, hy', most, hl, tok_push, hg, ro_push, hs.ro, setTok_push]
  ·rw [List.getElem?_set_self (List.getElem?_eq_some_iff.1 hg).1]; simp
end
end Go.Ax.Sx.Sc

namespace Go.Ax.Sx.Sc
open Go.Ax
set_option linter.unusedSimpArgs false
set_option linter.unusedVariables false
set_option maxRecDepth 100000
section
variable {s : Sig} {w : W}
theorem own_full {Q : Sig} {R : Rec} {es : Nat} {xs : List (List AV)} : ownResult (Q.push R) (.slice .full es xs) = some (.slice .full es xs, Q) := by
 show some (_, (Q.push R).pop) = _
 rw [pop_push]
theorem AG.own {Q : Sig} {bx : List (List AV)} {tk : List (Option Nat)} {B : List (List AV)} {es : Nat} {xs : List (List AV)} {x : AV} {tks : List (Option Nat)} (hQ : Ok Q) (h : AG (Q.acts.length + 1) es xs x tks) :
  ∃ x' tk', ownResult ((Q.push ⟨bx, tk⟩).push ⟨B, tks⟩) x = some (x', Q.push ⟨bx, tk'⟩) ∧ AG Q.acts.length es xs x' tk' ∧ (∀ (g : Nat) (n : Option Nat), tk[g]? = some n → tk'[g]? = some n) := by
 rcases h with rfl | ⟨g, rfl, hg⟩
 ·exact ⟨_, _, own_full, .inl rfl, fun _ _ h => h⟩
 ·refine ⟨_, _, own_push hQ (R := ⟨bx, tk⟩) (r0 := ⟨B, tks⟩) hg, .inr ⟨tk.length, rfl, by simp⟩, fun g n h => ?_⟩
  rw [List.getElem?_append_left (List.getElem?_eq_some_iff.1 h).1]; exact h
end
end Go.Ax.Sx.Sc

namespace Go.Ax.Sx.Sc
open Go.Ax
set_option linter.unusedSimpArgs false
set_option linter.unusedVariables false
set_option maxRecDepth 100000
section
variable {s : Sig} {w : W}
theorem Wk.c (hw : Wk w) (h0 : (weekE w).2.2 = 0) : Wk (cW w) := ⟨cW_Ok, cW_Few hw.few, weekE_ok (by rw [weekE_c]; exact h0)⟩
end
end Go.Ax.Sx.Sc

namespace Go.Ax.Sx.Sc
open Go.Ax
set_option linter.unusedSimpArgs false
set_option linter.unusedVariables false
set_option maxRecDepth 100000
section
variable {s : Sig} {w : W}
end
end Go.Ax.Sx.Sc

namespace Go.Ax.Sx.Sc
open Go.Ax
set_option linter.unusedSimpArgs false
set_option linter.unusedVariables false
set_option maxRecDepth 100000
section
variable {s : Sig} {w : W}
end
end Go.Ax.Sx.Sc

namespace Go.Ax.Sx.Sc
open Go.Ax
set_option linter.unusedSimpArgs false
set_option linter.unusedVariables false
set_option maxRecDepth 100000
section
variable {s : Sig} {w : W}
theorem Ends.find {α ι : Type} {I : List α → ι → Prop} {st : α → Bool} {O : List α → α → ι → Prop} {i : ι} : ∀ {xs done : List α}, Ends I (fun _ x => st x) O done xs false i → ∃ x dn, xs.find? st = some x ∧ O dn x i
 | [], _, h => absurd h.1 (by decide)
 | x :: r, done, h => by
  simp only [Ends] at h
  cases hs : st x with
  | true => rw [if_pos hs] at h; exact ⟨x, done, by rw [List.find?_cons, hs], h.2⟩
  | false =>
   rw [if_neg (by rw [hs]; decide)] at h
   rw [List.find?_cons, hs]
   exact Ends.find h
end
end Go.Ax.Sx.Sc

namespace Go.Ax.Sx.Sc
open Go.Ax
set_option linter.unusedSimpArgs false
set_option linter.unusedVariables false
set_option maxRecDepth 100000
section
variable {s : Sig} {w : W}
end
end Go.Ax.Sx.Sc

namespace Go.Ax.Sx.Sc
open Go.Ax
set_option linter.unusedSimpArgs false
set_option linter.unusedVariables false
set_option maxRecDepth 100000
abbrev rowX (x : Sl Int) : List AV := [x.v rowI]
attribute [go_sem] rowX
structure PrBig (p : List (Sl Int)) : Prop where
 len : (p.length : Int) < 9223372036854775808
 ok : ∀ x ∈ p, x.ok 1
 big : ∀ x ∈ p, (x.l.length : Int) < 9223372036854775808
structure PrOk (p : List (Sl Int)) : Prop where
 len : p.length ≤ 6
 ok : ∀ x ∈ p, x.ok 1
 big : ∀ x ∈ p, x.l.length ≤ 202
def fewP (p : List (Sl Int)) : Bool := decide (p.length ≤ 6) && p.all fun x => decide (x.l.length ≤ 202)
theorem fewP_ok {p : List (Sl Int)} (hb : PrBig p) (h : fewP p = true) : PrOk p := by
 simp only [fewP, Bool.and_eq_true, decide_eq_true_eq, List.all_eq_true] at h
 exact ⟨h.1, hb.ok, h.2⟩
section
variable {s : Sig} {w : W}
theorem l_few {p : List (Sl Int)} {o : Own} {e : Nat} (hb : PrBig p) (he : p = [] ∨ e = 1) : callL AP (.fn 7) [.slice o e (p.map rowX)] s = some (B (fewP p), s) := by
 have h6 : decide ((6 : Int) < (p.length : Int)) = !decide (p.length ≤ 6) := dec_not (by omega)
 have key : ∀ (k : Nat) ρ m, k ≤ p.length → (ρ 0 = .slice o e (p.map rowX) ∧ ρ 3 = I k ∧ m = s.push ⟨[], []⟩) →
   go AP f_l_few (.c (.loop b_l_few_l0) :: k_l_few_0) ⟨ρ, m⟩ = some (B ((p.drop k).all fun x => decide (x.l.length ≤ 202)), s) := by
  refine loop_up p.length _ _ ?_ ?_
  ·rintro k ρ m hk ⟨h0, h3, rfl⟩ ih
   obtain ⟨x, hx⟩ := get_some hk
   have hec : e = 1 := by rcases he with h | h; (rw [h] at hx; simp at hx); exact h
   subst hec
   have hix := ix_map (f := rowX) (o := o) (es := 1) hx
   have hpb := hb.big x (List.mem_of_getElem? hx)
   have h6 : decide ((202 : Int) < (x.l.length : Int)) = !decide (x.l.length ≤ 202) := dec_not (by omega)
   simp only [rowX, Sl.v] at hix
   rw [all_get hx]
   cases hd : decide (x.l.length ≤ 202) with
   | false => simp (maxSteps := 1000000) only [go_sem, b_l_few_l0, h0, h3, lt_dec hk, hix, h6, hd, Bool.not_false, Bool.false_and, Nat.reduceEqDiff, reduceCtorEq, ↓reduceIte]
   | true =>
    simp (maxSteps := 1000000) only [go_sem, b_l_few_l0, h0, h3, lt_dec hk, hix, h6, hd, Bool.not_true, wrap_succ hk hb.len, Nat.reduceEqDiff, reduceCtorEq, ↓reduceIte]
    exact ih _ _ ⟨h0, rfl, rfl⟩
  ·rintro ρ m ⟨h0, h3, rfl⟩
   simp (maxSteps := 1000000) only [go_sem, b_l_few_l0, b_l_few_r0, h0, h3, ge_dec, Nat.reduceEqDiff, reduceCtorEq, ↓reduceIte]
   rw [List.drop_length]; rfl
 rw [callL_go (show AP 7 = some c_l_few from rfl) rfl]
 unfold fewP
 cases hd : decide (p.length ≤ 6) with
 | false => simp (maxSteps := 1000000) only [go_sem, b_l_few, h6, hd, Bool.not_false, Bool.false_and, reduceCtorEq, ↓reduceIte]
 | true =>
  simp (maxSteps := 1000000) only [go_sem, b_l_few, h6, hd, Bool.not_true, reduceCtorEq, ↓reduceIte]
  exact key 0 _ _ (Nat.zero_le _) ⟨rfl, rfl, rfl⟩
def cX (x : Sl Int) : Sl Int := cpI x.l
theorem cX_ok {x : Sl Int} : (cX x).ok 1 := cpI_ok
theorem b_CopyLists {p : List (Sl Int)} {o : Own} {e : Nat} (hs : Ok s) (hp : PrOk p) (he : p = [] ∨ e = 1) : callL AP (.fn 14) [.slice o e (p.map rowX)] s = some (accV 1 ((p.map cX).map rowX), s) := by
 have hlen := hp.len
 have key : ∀ (k : Nat) ρ m, k ≤ p.length → (ρ 0 = .slice o e (p.map rowX) ∧ ρ 4 = I k ∧ ∃ x og tk, Acc s.acts.length 1 (((p.take k).map cX).map rowX) x og tk ∧ ρ 3 = x ∧ m = s.push ⟨[], tk⟩) →
   go AP f_b_CopyLists (.c (.loop b_b_CopyLists_l0) :: k_b_CopyLists_0) ⟨ρ, m⟩ = some (accV 1 ((p.map cX).map rowX), s) := by
  refine loop_up p.length _ _ ?_ ?_
  ·rintro k ρ m hk ⟨h0, h4, x, og, tk, hA, h3, rfl⟩ ih
   obtain ⟨y, hy⟩ := get_some hk
   have hec : e = 1 := by rcases he with h | h; (rw [h] at hy; simp at hy); exact h
   subst hec
   have hym := List.mem_of_getElem? hy
   have hix := ix_map (f := rowX) (o := o) (es := 1) hy
   have m2 := hp.big y hym
   obtain ⟨oo, tk1, hc1, hc2, hc3, _, _⟩ := b_CopyInts (Q := s) (l := y.l) (o := y.o) (e := y.e) (tk := tk) hs (hp.ok y hym).1 (by omega)
   have hA1 := Acc.ext hA hc3
   have hll : (p.take k).length ≤ 6 := by rw [List.length_take]; omega
   obtain ⟨x', og', tk2, ha1, ha2, _⟩ := hA1.append hs .full (ys := [rowX (cX y)]) (by simp) (by simp; omega)
   obtain ⟨oa', ea', ra', rfl⟩ := Acc.sl hA
   obtain ⟨os', es', rs', rfl⟩ := Acc.sl ha2
   have hcl : closeAll [.slice oo 1 (y.l.map rowI)] = some (rowX (cX y)) := by
    simp only [closeAll_cons, closeAll_nil, hc2]; rfl
   simp only [rowX, Sl.v] at ha1 hcl hix
   simp (maxSteps := 1000000) only [go_sem, b_b_CopyLists_l0, h0, h3, h4, lt_dec hk, hix, hc1, hcl, ha1, wrap_succ hk (show (p.length : Int) < _ by omega), Nat.reduceEqDiff, reduceCtorEq, ↓reduceIte]
   refine ih _ _ ?_
   refine ⟨h0, rfl, _, og', tk2, ?_, rfl, rfl⟩
   rw [take_get hy, List.map_append, List.map_append]; exact ha2
  ·rintro ρ m ⟨h0, h4, x, og, tk, hA, h3, rfl⟩
   rw [List.take_length] at hA
   have l1 := fun q : Sig => hA.leave q
   obtain ⟨oa', ea', ra', rfl⟩ := Acc.sl hA
   simp (maxSteps := 1000000) only [go_sem, b_b_CopyLists_l0, b_b_CopyLists_r0, h0, h3, h4, ge_dec, l1, Nat.reduceEqDiff, reduceCtorEq, ↓reduceIte]
 rw [callL_go (show AP 14 = some c_b_CopyLists from rfl) rfl]
 simp (maxSteps := 1000000) only [go_sem, b_b_CopyLists]
 refine key 0 _ _ (Nat.zero_le _) ?_
 exact ⟨rfl, rfl, _, none, [], Acc.start, rfl, rfl⟩
def prcE (w : W) (p : List (Sl Int)) : Int :=
 if p.length = w.as.l.length ∧ (∀ x ∈ p, (x.l.length : Int) = w.slots) then
  if p.all (fun x => x.l.all fun n => wi n 0 100000) then 0 else 2
 else 10
theorem prcE_shape {p : List (Sl Int)} (h : ¬ (p.length = w.as.l.length ∧ (∀ x ∈ p, (x.l.length : Int) = w.slots))) : prcE w p = 10 := by
 unfold prcE; rw [if_neg h]
theorem r_PricesErr {p : List (Sl Int)} {o : Own} {e : Nat} (hs : Ok s) (hw : Wk w) (hp : PrOk p) (he : p = [] ∨ e = 1) : callL AP (.fn 9) [w.v, .slice o e (p.map rowX)] s = some (I (prcE w p), s) := by
 have hlen := hp.len
 have hal := hw.v.al
 have hn1 := hw.v.n1
 have hn2 := hw.v.n2
 have inner : ∀ (x : Sl Int) (i : Nat) (R : Option (AV × Sig)), p[i]? = some x → e = 1 →
   (∀ ρ m, (ρ 1 = .slice o e (p.map rowX) ∧ ρ 2 = .ptr s.acts.length 0 0 ∧ ρ 6 = I ((i + 1 : Nat) : Int) ∧ m = s.push ⟨[rowW w], []⟩) → go AP f_r_PricesErr (.c (.loop b_r_PricesErr_l0) :: k_r_PricesErr_0) ⟨ρ, m⟩ = R) →
   ∀ (k : Nat) ρ m, k ≤ x.l.length → (ρ 1 = .slice o e (p.map rowX) ∧ ρ 2 = .ptr s.acts.length 0 0 ∧ ρ 6 = I i ∧ ρ 7 = I k ∧ m = s.push ⟨[rowW w], []⟩) →
   go AP f_r_PricesErr (.c (.loop b_r_PricesErr_l1) :: k_r_PricesErr_1) ⟨ρ, m⟩ = if (x.l.drop k).all (fun n => wi n 0 100000) = true then R else some (I 2, s) := by
  intro x i R hx he1 hR
  subst he1
  have hxm := List.mem_of_getElem? hx
  have hil : i < p.length := (List.getElem?_eq_some_iff.1 hx).1
  have hxo := hp.ok x hxm
  have hxb := hp.big x hxm
  have hix := ix_map (f := rowX) (o := o) (es := 1) hx
  simp only [rowX, Sl.v] at hix
  refine loop_up x.l.length _ _ ?_ ?_
  ·rintro k ρ m hk ⟨h1, h2, h6, h7, rfl⟩ ih
   obtain ⟨n, hn⟩ := get_some hk
   have hec : x.e = 1 := by rcases hxo.1 with h | h; (rw [h] at hn; simp at hn); exact h
   have hix2 := ix_map (f := rowI) (o := x.o) (es := 1) hn
   rw [hec] at hix
   have hwi : ∀ q, callL AP (.fn 25) [I n, I 0, I 100000] (s.push q) = some (B (wi n 0 100000), s.push q) := fun q => b_Within
   rw [all_get hn]
   cases hd : wi n 0 100000 with
   | false =>
    rw [hd] at hwi
    simp (maxSteps := 1000000) only [go_sem, b_r_PricesErr_l1, h1, h6, h7, lt_dec hk, hix, hix2, hwi, Bool.not_false, Bool.false_and, Nat.reduceEqDiff, reduceCtorEq, ↓reduceIte]
   | true =>
    rw [hd] at hwi
    simp (maxSteps := 1000000) only [go_sem, b_r_PricesErr_l1, h1, h6, h7, lt_dec hk, hix, hix2, hwi, Bool.not_true, wrap_succ hk (show (x.l.length : Int) < _ by omega), Bool.true_and, Nat.reduceEqDiff, ↓reduceIte]
    exact ih _ _ ⟨h1, h2, h6, rfl, rfl⟩
  ·rintro ρ m ⟨h1, h2, h6, h7, rfl⟩
   rw [List.drop_length]
   simp (maxSteps := 1000000) only [go_sem, b_r_PricesErr_l1, b_r_PricesErr_r1, h1, h6, h7, hix, ge_dec, List.all_nil, wrap_succ hil (show (p.length : Int) < _ by omega), Nat.reduceEqDiff, ↓reduceIte]
   exact hR _ _ ⟨h1, h2, rfl, rfl⟩
 have k2 : ∀ (k : Nat) ρ m, k ≤ p.length → (ρ 1 = .slice o e (p.map rowX) ∧ ρ 2 = .ptr s.acts.length 0 0 ∧ ρ 6 = I k ∧ m = s.push ⟨[rowW w], []⟩) →
   go AP f_r_PricesErr (.c (.loop b_r_PricesErr_l0) :: k_r_PricesErr_0) ⟨ρ, m⟩ = some (I (if (p.drop k).all (fun x => x.l.all fun n => wi n 0 100000) = true then 0 else 2), s) := by
  refine loop_up p.length _ _ ?_ ?_
  ·rintro k ρ m hk ⟨h1, h2, h6, rfl⟩ ih
   obtain ⟨x, hx⟩ := get_some hk
   have hec : e = 1 := by rcases he with h | h; (rw [h] at hx; simp at hx); exact h
   simp (maxSteps := 1000000) only [go_sem, b_r_PricesErr_l0, h1, h6, lt_dec hk, Nat.reduceEqDiff, ↓reduceIte]
   refine (inner x k _ hx hec (fun ρ m h => ih ρ m h) 0 _ _ (Nat.zero_le _) ?_).trans ?_
   ·exact ⟨h1, h2, h6, rfl, rfl⟩
   rw [all_get hx, List.drop_zero]
   cases (x.l.all fun n => wi n 0 100000) <;> simp
  ·rintro ρ m ⟨h1, h2, h6, rfl⟩
   rw [List.drop_length]
   simp (maxSteps := 1000000) only [go_sem, b_r_PricesErr_l0, b_r_PricesErr_r0, h1, h6, ge_dec, List.all_nil, Nat.reduceEqDiff, ↓reduceIte]
 have k1 : ∀ (k : Nat) ρ m, k ≤ p.length → (ρ 1 = .slice o e (p.map rowX) ∧ ρ 2 = .ptr s.acts.length 0 0 ∧ ρ 5 = I k ∧ m = s.push ⟨[rowW w], []⟩) →
   go AP f_r_PricesErr (.c (.loop b_r_PricesErr_l2) :: k_r_PricesErr_2) ⟨ρ, m⟩ = some (I (if ∀ x ∈ p.drop k, (x.l.length : Int) = w.slots then (if p.all (fun x => x.l.all fun n => wi n 0 100000) = true then 0 else 2) else 10), s) := by
  refine loop_up p.length _ _ ?_ ?_
  ·rintro k ρ m hk ⟨h1, h2, h5, rfl⟩ ih
   obtain ⟨x, hx⟩ := get_some hk
   have hec : e = 1 := by rcases he with h | h; (rw [h] at hx; simp at hx); exact h
   subst hec
   have hix := ix_map (f := rowX) (o := o) (es := 1) hx
   simp only [rowX, Sl.v] at hix
   rw [drop_get hx]
   by_cases hxs : (x.l.length : Int) = w.slots
   ·have hd : decide ((x.l.length : Int) ≠ w.slots) = false := by simp [hxs]
    simp (maxSteps := 1000000) only [go_sem, b_r_PricesErr_l2, h1, h2, h5, lt_dec hk, hix, hd, wrap_succ hk (show (p.length : Int) < _ by omega), Nat.reduceEqDiff, Nat.reduceAdd, ↓reduceIte]
    refine (ih _ _ ?_).trans ?_
    ·exact ⟨h1, h2, rfl, rfl⟩
    simp [hxs]
   ·have hd : decide ((x.l.length : Int) ≠ w.slots) = true := by simp [hxs]
    simp (maxSteps := 1000000) only [go_sem, b_r_PricesErr_l2, h1, h2, h5, lt_dec hk, hix, hd, Nat.reduceEqDiff, Nat.reduceAdd, ↓reduceIte]
    simp [hxs]
  ·rintro ρ m ⟨h1, h2, h5, rfl⟩
   rw [List.drop_length, if_pos (by simp)]
   simp (maxSteps := 1000000) only [go_sem, b_r_PricesErr_l2, b_r_PricesErr_r2, h1, h5, ge_dec, Nat.reduceEqDiff, ↓reduceIte]
   refine (k2 0 _ _ (Nat.zero_le _) ?_).trans ?_
   ·exact ⟨h1, h2, rfl, rfl⟩
   rw [List.drop_zero]
 by_cases hl : p.length = w.as.l.length
 ·have hd : decide ((p.length : Int) ≠ (w.as.l.length : Int)) = false := by simp; omega
  rw [callL_go (show AP 9 = some c_r_PricesErr from rfl) rfl]
  simp (maxSteps := 1000000) only [go_sem, b_r_PricesErr, hd, Nat.reduceEqDiff, Nat.reduceAdd, ↓reduceIte]
  refine (k1 0 _ _ (Nat.zero_le _) ?_).trans ?_
  ·exact ⟨rfl, rfl, rfl, rfl⟩
  rw [List.drop_zero]
  unfold prcE
  simp only [hl, true_and]
 ·have hd : decide ((p.length : Int) ≠ (w.as.l.length : Int)) = true := by simp; omega
  rw [prcE_shape (fun h => hl h.1)]
  rw [callL_go (show AP 9 = some c_r_PricesErr from rfl) rfl]
  simp (maxSteps := 1000000) only [go_sem, b_r_PricesErr, hd, Nat.reduceEqDiff, Nat.reduceAdd, ↓reduceIte]
end
end Go.Ax.Sx.Sc

namespace Go.Ax.Sx.Sc
open Go.Ax
set_option linter.unusedSimpArgs false
set_option linter.unusedVariables false
set_option maxRecDepth 100000
section
variable {s : Sig} {w : W}
end
end Go.Ax.Sx.Sc

namespace Go.Ax.Sx.Sc
open Go.Ax
set_option linter.unusedSimpArgs false
set_option linter.unusedVariables false
set_option maxRecDepth 100000
section
variable {s : Sig} {w : W}
theorem clq_closed {as : List A} {i t : Nat} {x : A} (h : as[i]? = some x) : isClosed x (t : Int) = clq as i t := by
 simp only [clq, h]
end
end Go.Ax.Sx.Sc

namespace Go.Ax.Sx.Sc
open Go.Ax
set_option linter.unusedSimpArgs false
set_option linter.unusedVariables false
set_option maxRecDepth 100000
def sumN (f : Nat → Int) : Nat → Int
 | 0 => 0
 | n + 1 => sumN f n + f n
theorem sumN_bd {f : Nat → Int} {c : Int} : ∀ {n : Nat}, (∀ i, i < n → 0 ≤ f i ∧ f i ≤ c) → 0 ≤ sumN f n ∧ sumN f n ≤ n * c
 | 0, _ => by simp [sumN]
 | n + 1, h => by
  have ih := sumN_bd (n := n) fun i hi => h i (by omega)
  have := h n (by omega)
  have e : ((n + 1 : Nat) : Int) * c = n * c + c := by rw [Int.natCast_add, Int.add_mul]; simp
  rw [e]
  simp only [sumN]
  omega
theorem sumN_congr {f g : Nat → Int} : ∀ {n : Nat}, (∀ i, i < n → f i = g i) → sumN f n = sumN g n
 | 0, _ => rfl
 | n + 1, h => by simp only [sumN]; rw [sumN_congr fun i hi => h i (by omega), h n (by omega)]
def prAt (p : List (Sl Int)) (a t : Nat) : Int := match p[a]? with
 | some x => (x.l[t]?).getD 0
 | none => 0
def rowB (w : W) (p : List (Sl Int)) (a : Nat) (k : Nat) : Int := sumN (fun t => if clq w.as.l a t = true then 0 else prAt p a t) k
def totB (w : W) (p : List (Sl Int)) (k : Nat) : Int := sumN (fun a => rowB w p a w.slots.toNat) k
def strip (p : List (Sl Int)) (a st : Nat) (k : Nat) : Int := sumN (fun j => prAt p a (st + j)) k
def costL (p : List (Sl Int)) (st len : Nat) : List Int → Int
 | [] => 0
 | a :: r => strip p a.toNat st len + costL p st len r
def surp (w : W) (p : List (Sl Int)) (i : Int) (m : Int) (x : P) : Int := max m ((w.rq i).val - costL p x.start.toNat (w.rq i).len.toNat x.an.l)
def surpL (w : W) (p : List (Sl Int)) (i : Int) (l : List P) : Int := l.foldl (surp w p i) 0
def sumS (w : W) (p : List (Sl Int)) (k : Nat) : Int := sumN (fun i => surpL w p i (poss w i)) k
def bndV (w : W) (p : List (Sl Int)) : Int := totB w p w.as.l.length + sumS w p w.rs.l.length
structure PrV (w : W) (p : List (Sl Int)) : Prop where
 ok : PrOk p
 len : p.length = w.as.l.length
 sl : ∀ x ∈ p, (x.l.length : Int) = w.slots
 rg : ∀ x ∈ p, ∀ n ∈ x.l, 0 ≤ n ∧ n ≤ 100000
section
variable {s : Sig} {w : W} {p : List (Sl Int)}
theorem prcE_ok (hp : PrOk p) (h : prcE w p = 0) : PrV w p := by
 unfold prcE at h
 split at h
 ·rename_i h1
  split at h
  ·rename_i h2
   refine ⟨hp, h1.1, h1.2, fun x hx n hn => ?_⟩
   have := List.all_eq_true.1 (List.all_eq_true.1 h2 x hx) n hn
   exact wi_iff.1 this
  ·omega
 ·omega
theorem PrV.get (hv : PrV w p) (hw : Wk w) {a : Nat} (ha : a < w.as.l.length) : ∃ x, p[a]? = some x ∧ x.ok 1 ∧ x.l.length = w.slots.toNat ∧ x.e = 1 ∧ ∀ t, t < w.slots.toNat → x.l[t]? = some (prAt p a t) ∧ 0 ≤ prAt p a t ∧ prAt p a t ≤ 100000 := by
 have hn1 := hw.v.n1
 obtain ⟨x, hx⟩ := get_some (l := p) (k := a) (by rw [hv.len]; exact ha)
 have hxm := List.mem_of_getElem? hx
 have hl := hv.sl x hxm
 have hxo := hv.ok.ok x hxm
 refine ⟨x, hx, hxo, by omega, ?_, fun t ht => ?_⟩
 ·rcases hxo.1 with h | h
  ·rw [h] at hl; simp at hl; omega
  ·exact h
 ·obtain ⟨n, hn⟩ := get_some (l := x.l) (k := t) (by omega)
  have e : prAt p a t = n := by simp only [prAt, hx, hn]; rfl
  rw [e]
  exact ⟨hn, hv.rg x hxm n (List.mem_of_getElem? hn)⟩
theorem rowB_bd (hv : PrV w p) (hw : Wk w) {a k : Nat} (ha : a < w.as.l.length) (hk : k ≤ w.slots.toNat) : 0 ≤ rowB w p a k ∧ rowB w p a k ≤ k * 100000 := by
 obtain ⟨x, _, _, _, _, hx⟩ := hv.get hw ha
 refine sumN_bd fun t ht => ?_
 have := (hx t (by omega)).2
 split <;> omega
theorem totB_bd (hv : PrV w p) (hw : Wk w) {k : Nat} (hk : k ≤ w.as.l.length) : 0 ≤ totB w p k ∧ totB w p k ≤ k * 20000000 := by
 have hn2 := hw.v.n2
 refine sumN_bd fun a ha => ?_
 have := rowB_bd hv hw (a := a) (k := w.slots.toNat) (by omega) (Nat.le_refl _)
 omega
theorem strip_bd (hv : PrV w p) (hw : Wk w) {a st k : Nat} (ha : a < w.as.l.length) (hk : st + k ≤ w.slots.toNat) : 0 ≤ strip p a st k ∧ strip p a st k ≤ k * 100000 := by
 obtain ⟨x, _, _, _, _, hx⟩ := hv.get hw ha
 exact sumN_bd fun j hj => (hx (st + j) (by omega)).2
theorem costL_app {st len : Nat} {l l2 : List Int} : costL p st len (l ++ l2) = costL p st len l + costL p st len l2 := by
 induction l with
 | nil => simp [costL]
 | cons a r ih => simp only [List.cons_append, costL, ih]; omega
theorem costL_bd (hv : PrV w p) (hw : Wk w) {st len : Nat} (hk : st + len ≤ w.slots.toNat) : ∀ {l : List Int}, (∀ a ∈ l, 0 ≤ a ∧ a < w.as.l.length) → 0 ≤ costL p st len l ∧ costL p st len l ≤ l.length * 20000000
 | [], _ => by simp [costL]
 | a :: r, h => by
  have hn2 := hw.v.n2
  have ih := costL_bd hv hw hk (l := r) fun b hb => h b (List.mem_cons_of_mem _ hb)
  have ha := h a (by simp)
  have := strip_bd hv hw (a := a.toNat) (by omega) hk
  simp only [costL, List.length_cons]
  omega
theorem surpL_app {i : Int} {l : List P} {x : P} : surpL w p i (l ++ [x]) = surp w p i (surpL w p i l) x := by simp [surpL]
theorem poss_slots (hw : Wk w) {i : Int} (h0 : 0 ≤ i) (h1 : i < w.rs.l.length) {x : P} (hx : x ∈ poss w i) : x.start.toNat + (w.rq i).len.toNat ≤ w.slots.toNat ∧ (x.start.toNat : Int) = x.start ∧ (∀ a ∈ x.an.l, 0 ≤ a ∧ a < w.as.l.length) ∧ x.an.l.length ≤ 6 := by
 have hq := hw.rq h0 h1
 obtain ⟨hin, _, h3, h4, h5, _, h7, _⟩ := poss_in hw h0 h1 hx
 have b1 := hq.lo0
 have b2 := hq.hin
 have b3 := hq.len1
 have b7 := hw.few.an _ (W.rq_mem h0 h1)
 have := h7.length_le
 exact ⟨by omega, by omega, hin.an, by omega⟩
theorem surpL_bd (hv : PrV w p) (hw : Wk w) {i : Int} (h0 : 0 ≤ i) (h1 : i < w.rs.l.length) {l : List P} (hl : ∀ x ∈ l, x ∈ poss w i) : 0 ≤ surpL w p i l ∧ surpL w p i l ≤ 100000 := by
 have hq := hw.rq h0 h1
 have c2 := hq.val1
 have key : ∀ (l : List P) (m : Int), (∀ x ∈ l, x ∈ poss w i) → 0 ≤ m → m ≤ 100000 → 0 ≤ l.foldl (surp w p i) m ∧ l.foldl (surp w p i) m ≤ 100000 := by
  intro l
  induction l with
  | nil => intro m _ a b; exact ⟨a, b⟩
  | cons x r ih =>
   intro m hl a b
   obtain ⟨a1, a2, a3, a4⟩ := poss_slots hw h0 h1 (hl x (by simp))
   have := costL_bd hv hw a1 a3
   refine ih _ (fun y hy => hl y (List.mem_cons_of_mem _ hy)) ?_ ?_
   ·unfold surp; omega
   ·unfold surp; omega
 exact key l 0 hl (by omega) (by omega)
theorem sumS_bd (hv : PrV w p) (hw : Wk w) {k : Nat} (hk : k ≤ w.rs.l.length) : 0 ≤ sumS w p k ∧ sumS w p k ≤ k * 100000 :=
 sumN_bd fun i hi => surpL_bd hv hw (by omega) (by omega) fun _ h => h
theorem mx_i {a b : Int} : minmaxOp true [I a, I b] = some (I (max a b)) := by rw [mm_max]
end
end Go.Ax.Sx.Sc

namespace Go.Ax.Sx.Sc
open Go.Ax
set_option linter.unusedSimpArgs false
set_option linter.unusedVariables false
set_option maxRecDepth 100000
theorem slice_mid {α : Type} {f : α → List AV} {o : Own} {es i k : Nat} {l : List α} (hi : i ≤ k) (hk : k ≤ l.length) : ∃ o', sliceOp (.sl es) (.slice o es (l.map f)) (some (I (i : Int))) (some (I (k : Int))) none = some (.slice o' es (((l.take k).drop i).map f)) := by
 refine ⟨slOwn o false (i == 0 && k == (l.map f).length) (k == (l.map f).length && 0 < (l.map f).length), ?_⟩
 have h1 : hiOf (some (I (k : Int))) false (l.map f).length (l.map f).length = some k := by
  simp [hiOf, asNat, hk]
 have h2 : loOf (some (I (i : Int))) k = some i := by simp [loOf, asNat, hi]
 simp only [List.length_map] at h1
 simp [sliceOp, mxOf, h1, h2, List.map_take, List.map_drop]
section
variable {s : Sig} {w : W} {p : List (Sl Int)}
theorem z_IndexFunc_intL {l : List (Sl Int)} {o : Own} {e : Nat} {g : FuncId} {caps : List AV} {p : (Sl Int) → Bool} (he : l = [] ∨ e = 1) (hl : (l.length : Int) < 9223372036854775808)
  (hg : ∀ a ∈ l, ∀ r, callL AP (.fn g) ((a.v rowI) :: caps) (s.push r) = some (B (p a), s.push r)) : callL AP (.fn 52) [.slice o e (l.map rowX), .fn g [] caps] s = some (I (findI p l), s) := by
 have key : ∀ k ρ m, k ≤ l.length → (ρ 0 = .slice o e (l.map rowX) ∧ ρ 1 = .fn g [] caps ∧ ρ 7 = I l.length ∧ ρ 8 = I k ∧ (∀ j y, j < k → l[j]? = some y → p y = false) ∧ m = s.push ⟨[], []⟩) → go AP f_z_IndexFunc_intL (.c (.loop b_z_IndexFunc_intL_l0) :: k_z_IndexFunc_intL_0) ⟨ρ, m⟩ = some (I (findI p l), s) := by
  refine loop_up l.length _ _ ?_ ?_
  ·rintro k ρ m hk ⟨h0, h1, h7, h8, hp, rfl⟩ ih
   obtain ⟨a, ha⟩ := get_some hk
   have he : e = 1 := by rcases he with h | h; (rw [h] at ha; simp at ha); exact h
   subst he
   have hr := ix_map (o := o) (es := 1) (f := rowX) ha
   simp (maxSteps := 1000000) only [go_sem, b_z_IndexFunc_intL_l0, h0, h1, h7, h8, lt_dec hk, hr, hg a (List.mem_of_getElem? ha), wrap_succ hk hl, Nat.reduceEqDiff, reduceCtorEq, ↓reduceIte]
   cases hpa : p a with
   | true =>
    simp only [cond_true]
    rw [findI_at ha hpa hp]
   | false =>
    simp only [cond_false]
    refine ih _ _ ?_
    refine ⟨h0, h1, h7, rfl, fun j y hj hy => ?_, rfl⟩
    by_cases e : j = k
    ·subst e; rw [ha] at hy; injection hy with hy; rw [← hy]; exact hpa
    ·exact hp j y (by omega) hy
  ·rintro ρ m ⟨h0, h1, h7, h8, hp, rfl⟩
   simp (maxSteps := 1000000) only [go_sem, b_z_IndexFunc_intL_l0, b_z_IndexFunc_intL_r0, h7, h8, ge_dec, Int.reduceNeg, ↓reduceIte]
   rw [findI_no hp]
 rw [callL_go (show AP 52 = some c_z_IndexFunc_intL from rfl) rfl]
 simp (maxSteps := 1000000) only [go_sem, b_z_IndexFunc_intL, reduceCtorEq, ↓reduceIte]
 exact key 0 _ _ (Nat.zero_le _) ⟨rfl, rfl, rfl, rfl, fun j y hj => absurd hj (Nat.not_lt_zero _), rfl⟩
theorem z_ContainsFunc_intL {l : List (Sl Int)} {o : Own} {e : Nat} {g : FuncId} {caps : List AV} {p : (Sl Int) → Bool} (he : l = [] ∨ e = 1) (hl : (l.length : Int) < 9223372036854775808)
  (hg : ∀ a ∈ l, ∀ r q, callL AP (.fn g) ((a.v rowI) :: caps) ((s.push r).push q) = some (B (p a), (s.push r).push q)) : callL AP (.fn 32) [.slice o e (l.map rowX), .fn g [] caps] s = some (B (l.any p), s) := by
 have h := z_IndexFunc_intL (s := s.push ⟨[], []⟩) (o := o) (caps := caps) (g := g) he hl (fun a ha r => hg a ha _ r)
 rw [callL_go (show AP 32 = some c_z_ContainsFunc_intL from rfl) rfl]
 simp (maxSteps := 1000000) only [go_sem, b_z_ContainsFunc_intL, h, findI_nn, Nat.reduceEqDiff, reduceCtorEq, ↓reduceIte]
theorem s_BoundOf_1 {x : Sl Int} {d b : Nat} (hs : Ok s) (hb : s.box d b = some (rowW w)) : callL AP (.fn 31) [x.v rowI, .ptr d b 0] s = some (B (!decide ((x.l.length : Int) = w.slots)), s) := by
 have hbk : ∀ r, (s.push r).box d b = some (rowW w) := fun r => box_keep hb r
 have hd : decide ((x.l.length : Int) ≠ w.slots) = !decide ((x.l.length : Int) = w.slots) := by simp
 simp only [rowW, Sl.v] at hbk
 rw [callL_go (show AP 31 = some c_s_BoundOf_1 from rfl) rfl]
 simp (maxSteps := 1000000) only [go_sem, b_s_BoundOf_1, hbk, hd, Nat.reduceEqDiff, reduceCtorEq, Nat.reduceAdd, ↓reduceIte]
abbrev bndL (ρ : Nat → AV) : ALoop := ⟨true, none, ρ, [82], b_s_BoundOf_a3, b_s_BoundOf_y1⟩
theorem strip_take {x : Sl Int} {a st len : Nat} (hx : p[a]? = some x) (hl : st + len ≤ x.l.length) {j : Nat} (hj : j < len) : ((x.l.take (st + len)).drop st)[j]? = some (prAt p a (st + j)) := by
 obtain ⟨n, hn⟩ := get_some (l := x.l) (k := st + j) (by omega)
 have e : prAt p a (st + j) = n := by simp only [prAt, hx, hn]; rfl
 rw [e, List.getElem?_drop, List.getElem?_take, if_pos (by omega)]; exact hn
theorem bnd_round {X T : Rec → Sig} {l d i : Nat} {ρ : Nat → AV} {tk : List (Option Nat)} {o : Own} {e : Nat} {pre : List (List AV)} {v : Int} {x : P} (hM : Mid X d) (hX : ∀ r, busy l (T r) = X r) (hR : ∀ r, Ready l (bndL ρ) (T r)) (hok : ∀ r, Ok (T r)) (hw : Wk w) (hv : PrV w p) (he : p = [] ∨ e = 1)
    (hi : i < w.rs.l.length) (hx : x ∈ poss w i) (hp0 : pre[0]? = some (rowW w)) (hp1 : pre[1]? = some [.slice o e (p.map rowX)]) (hp2 : pre[2]? = some [OW w]) (h2 : ρ 2 = .ptr d 0 0) (h3 : ρ 3 = .ptr d 1 0) (h6 : ρ 6 = .ptr d 2 0) (h14 : ρ 14 = .ptr d pre.length 0) (h15 : ρ 15 = .ptr d (pre.length + 1) 0) (hv0 : 0 ≤ v) (hv1 : v ≤ 100000) :
    callL AP (.yield l) [.agg (rowP x)] (T ⟨pre ++ [[I i], [I v]], tk⟩) = some (.v (.bool true), T ⟨pre ++ [[I i], [I (surp w p i v x)]], tk⟩) := by
  have h0 : (0 : Int) ≤ i := by omega
  have h1 : (i : Int) < w.rs.l.length := by omega
  have hq := hw.rq h0 h1
  have hql := hq.len1
  have hn2 := hw.v.n2
  have hval := hq.val0
  have hval1 := hq.val1
  obtain ⟨hin, hxr, _⟩ := poss_in hw h0 h1 hx
  obtain ⟨q1, q2, q3, q4⟩ := poss_slots hw h0 h1 hx
  have hrs := ix_rs hw h0 h1
  have hokX : ∀ r, Ok (X r) := fun r => by rw [← hX]; exact (hok r).busy
  have hTX : ∀ r, (T r).acts.length = (X r).acts.length := fun r => by rw [← hX]; rfl
  have hfin : ∀ r ρ' q, finR l .normal ⟨ρ', (X r).push q⟩ = some (.v (.bool true), T r) := fun r ρ' q => by rw [← hX]; exact finR_n (hR r)
  have len0 : 0 < pre.length := (List.getElem?_eq_some_iff.1 hp0).1
  have len1 : 1 < pre.length := (List.getElem?_eq_some_iff.1 hp1).1
  have len2 : 2 < pre.length := (List.getElem?_eq_some_iff.1 hp2).1
  have k0 : ∀ v q, ((X ⟨pre ++ [[I i], [I v]], tk⟩).push q).box d 0 = some (rowW w) := fun v q => by rw [hM.box, List.getElem?_append_left len0]; exact hp0
  have k1 : ∀ v q, ((X ⟨pre ++ [[I i], [I v]], tk⟩).push q).box d 1 = some [.slice o e (p.map rowX)] := fun v q => by rw [hM.box, List.getElem?_append_left len1]; exact hp1
  have k2 : ∀ v q, ((X ⟨pre ++ [[I i], [I v]], tk⟩).push q).box d 2 = some [OW w] := fun v q => by rw [hM.box, List.getElem?_append_left len2]; exact hp2
  have k3 : ∀ v q, ((X ⟨pre ++ [[I i], [I v]], tk⟩).push q).box d pre.length = some [I i] := fun v q => by rw [hM.box]; exact at_len
  have k4 : ∀ v q, ((X ⟨pre ++ [[I i], [I v]], tk⟩).push q).box d (pre.length + 1) = some [I v] := fun v q => by rw [hM.box]; exact at_len1
  have st : ∀ v' q, ((X ⟨pre ++ [[I i], [I v]], tk⟩).push q).store 1 (.ptr d (pre.length + 1) 0) (I v') = some ((X ⟨pre ++ [[I i], [I v']], tk⟩).push q) := fun v' q => by
    have := hM.store (r0 := q) (r := ⟨pre ++ [[I i], [I v]], tk⟩) (b := pre.length + 1) (off := 0) (n := 1) (y := I v') (by rfl) (by rfl) (row := [I v]) (row' := [I v']) at_len1 (by rfl)
    rw [this, set_len1]
  have hend : ∀ q : Sig, callL AP (.fn 35) [OW w, .agg (rowP x)] (roS q) = some (I (((x.start.toNat + (w.rq i).len.toNat : Nat)) : Int), roS q) := fun q => by
    rw [w_end ok_roS hw hin.r0 hin.r1 hin.s0 hin.s1]
    simp only [endP, hxr]
    congr 3; omega
  obtain ⟨D, hD⟩ : ∃ D, D = (X ⟨pre ++ [[I i], [I v]], tk⟩).acts.length := ⟨_, rfl⟩
  have kin : ∀ (n a : Nat) (oo : Own) (c0 : Int) (R : Option (AV × Sig)), n < x.an.l.length → a < w.as.l.length → 0 ≤ c0 → c0 ≤ 200000000 →
      (∀ ρ' m, (ρ' 2 = .ptr d 0 0 ∧ ρ' 3 = .ptr d 1 0 ∧ ρ' 6 = .ptr d 2 0 ∧ ρ' 14 = .ptr d pre.length 0 ∧ ρ' 15 = .ptr d (pre.length + 1) 0 ∧ ρ' 16 = .ptr D 0 0 ∧ ρ' 17 = I (c0 + strip p a x.start.toNat (w.rq i).len.toNat) ∧ ρ' 84 = x.an.v rowI ∧ ρ' 85 = I x.an.l.length ∧ ρ' 86 = I ((n + 1 : Nat) : Int) ∧ m = (X ⟨pre ++ [[I i], [I v]], tk⟩).push ⟨[rowP x], []⟩) →
        go AP (finR l) (.c (.loop b_s_BoundOf_l2) :: k_s_BoundOf_2) ⟨ρ', m⟩ = R) →
      ∀ (j : Nat) ρ' m, j ≤ (w.rq i).len.toNat → (ρ' 2 = .ptr d 0 0 ∧ ρ' 3 = .ptr d 1 0 ∧ ρ' 6 = .ptr d 2 0 ∧ ρ' 14 = .ptr d pre.length 0 ∧ ρ' 15 = .ptr d (pre.length + 1) 0 ∧ ρ' 16 = .ptr D 0 0 ∧ ρ' 17 = I (c0 + strip p a x.start.toNat j) ∧ ρ' 84 = x.an.v rowI ∧ ρ' 85 = I x.an.l.length ∧ ρ' 86 = I n ∧ ρ' 99 = .slice oo 1 ((((p[a]?.map Sl.l).getD []).take (x.start.toNat + (w.rq i).len.toNat)).drop x.start.toNat |>.map rowI) ∧ ρ' 100 = I (w.rq i).len.toNat ∧ ρ' 101 = I j ∧ m = (X ⟨pre ++ [[I i], [I v]], tk⟩).push ⟨[rowP x], []⟩) →
        go AP (finR l) (.c (.loop b_s_BoundOf_l3) :: k_s_BoundOf_3) ⟨ρ', m⟩ = R := by
    intro n a oo c0 R hn ha hc0 hc1 hRR
    obtain ⟨y, hy, hyo, hyl, hye, hyt⟩ := hv.get hw ha
    refine loop_up (w.rq i).len.toNat _ (fun _ => R) ?_ ?_
    · rintro j ρ' m hj ⟨g2, g3, g6, g14, g15, g16, g17, g84, g85, g86, g99, g100, g101, rfl⟩ ih
      have hst := strip_take hy (st := x.start.toNat) (len := (w.rq i).len.toNat) (by omega) hj
      have hix := ix_map (f := rowI) (o := oo) (es := 1) hst
      obtain ⟨_, t2, t3⟩ := hyt (x.start.toNat + j) (by omega)
      have hsb := strip_bd hv hw (a := a) (st := x.start.toNat) (k := j) ha (by omega)
      have hw2 : IntKind.i64.wrap (c0 + strip p a x.start.toNat j + prAt p a (x.start.toNat + j)) = c0 + strip p a x.start.toNat (j + 1) := by
        rw [wrap_id (by omega) (by omega)]; simp only [strip, sumN]; omega
      rw [hy] at g99
      simp only [Option.map_some, Option.getD_some] at g99
      simp (maxSteps := 1000000) only [go_sem, b_s_BoundOf_l3, g17, g99, g100, g101, lt_dec hj, hix, hw2, wrap_succ hj (show ((w.rq i).len.toNat : Int) < _ by omega), Nat.reduceEqDiff, ↓reduceIte]
      refine ih _ _ ?_
      refine ⟨g2, g3, g6, g14, g15, g16, rfl, g84, g85, g86, ?_, g100, rfl, rfl⟩
      rw [hy]; exact g99
    · rintro ρ' m ⟨g2, g3, g6, g14, g15, g16, g17, g84, g85, g86, g99, g100, g101, rfl⟩
      simp (maxSteps := 1000000) only [go_sem, b_s_BoundOf_l3, b_s_BoundOf_r4, g86, g100, g101, ge_dec, wrap_succ hn (show (x.an.l.length : Int) < _ by omega), Nat.reduceEqDiff, ↓reduceIte]
      refine hRR _ _ ?_
      exact ⟨g2, g3, g6, g14, g15, g16, g17, g84, g85, rfl, rfl⟩
  have key : ∀ (n : Nat) ρ' m, n ≤ x.an.l.length → (ρ' 2 = .ptr d 0 0 ∧ ρ' 3 = .ptr d 1 0 ∧ ρ' 6 = .ptr d 2 0 ∧ ρ' 14 = .ptr d pre.length 0 ∧ ρ' 15 = .ptr d (pre.length + 1) 0 ∧ ρ' 16 = .ptr D 0 0 ∧ ρ' 17 = I (costL p x.start.toNat (w.rq i).len.toNat (x.an.l.take n)) ∧ ρ' 84 = x.an.v rowI ∧ ρ' 85 = I x.an.l.length ∧ ρ' 86 = I n ∧ m = (X ⟨pre ++ [[I i], [I v]], tk⟩).push ⟨[rowP x], []⟩) →
      go AP (finR l) (.c (.loop b_s_BoundOf_l2) :: k_s_BoundOf_2) ⟨ρ', m⟩ = some (.v (.bool true), T ⟨pre ++ [[I i], [I (surp w p i v x)]], tk⟩) := by
    refine loop_up x.an.l.length _ (fun _ => some (.v (.bool true), T ⟨pre ++ [[I i], [I (surp w p i v x)]], tk⟩)) ?_ ?_
    · rintro n ρ' m hn ⟨g2, g3, g6, g14, g15, g16, g17, g84, g85, g86, rfl⟩ ih
      obtain ⟨a, ha⟩ := get_some hn
      have han := q3 a (List.mem_of_getElem? ha)
      obtain ⟨an, rfl⟩ : ∃ an : Nat, a = an := ⟨a.toNat, by omega⟩
      obtain ⟨y, hy, hyo, hyl, hye, hyt⟩ := hv.get hw (a := an) (by omega)
      have hec : e = 1 := by rcases he with h | h; (rw [h] at hy; simp at hy); exact h
      have hixa := Sl.ix (f := rowI) hin.ok ha
      have hixx := ix_map (f := rowX) (o := o) (es := 1) hy
      simp only [rowX, Sl.v] at hixx
      rw [hye] at hixx
      obtain ⟨oo, hsl⟩ := slice_mid (f := rowI) (o := y.o) (es := 1) (i := x.start.toNat) (k := x.start.toNat + (w.rq i).len.toNat) (l := y.l) (by omega) (by omega)
      rw [q2] at hsl
      have hll : (((y.l.take (x.start.toNat + (w.rq i).len.toNat)).drop x.start.toNat).length : Int) = ((w.rq i).len.toNat : Int) := by
        rw [List.length_drop, List.length_take]; omega
      have hcb := costL_bd hv hw q1 (l := x.an.l.take n) fun b hb => q3 b (List.mem_of_mem_take hb)
      have htl : (x.an.l.take n).length ≤ 6 := by rw [List.length_take]; omega
      have hcs : costL p x.start.toNat (w.rq i).len.toNat (x.an.l.take (n + 1)) = costL p x.start.toNat (w.rq i).len.toNat (x.an.l.take n) + strip p an x.start.toNat (w.rq i).len.toNat := by
        rw [take_get ha, costL_app]; simp [costL]
      have b0 : ∀ q, ((X ⟨pre ++ [[I i], [I v]], tk⟩).push ⟨rowP x :: q, []⟩).box D 0 = some (rowP x) := fun q => by rw [hD, box_push]; rfl
      simp only [rowP, Sl.v, OW] at hixa hend k2 b0 ⊢
      rw [hec] at k1
      subst hec
      simp (maxSteps := 1000000) only [go_sem, b_s_BoundOf_l2, g3, g6, g16, g84, g85, g86, lt_dec hn, hixa, k1, k2, hixx, b0, hend, hsl, len_sl, hll, Nat.reduceEqDiff, Nat.reduceAdd, ↓reduceIte]
      refine kin n an oo (costL p x.start.toNat (w.rq i).len.toNat (x.an.l.take n)) _ hn (by omega) (by omega) (by omega) (fun ρ'' m h => ih ρ'' m ?_) 0 _ _ (Nat.zero_le _) ?_
      · rw [hcs]; exact h
      · refine ⟨g2, g3, g6, g14, g15, g16, ?_, g84, g85, g86, ?_, rfl, rfl, rfl⟩
        · show _ = I (_ + 0)
          rw [Int.add_zero]; exact g17
        · rw [hy]; rfl
    · rintro ρ' m ⟨g2, g3, g6, g14, g15, g16, g17, g84, g85, g86, rfl⟩
      rw [List.take_length] at g17
      have hcb := costL_bd hv hw q1 q3
      have hw1 : IntKind.i64.wrap ((w.rq i).val - costL p x.start.toNat (w.rq i).len.toNat x.an.l) = (w.rq i).val - costL p x.start.toNat (w.rq i).len.toNat x.an.l := wrap_id (by omega) (by omega)
      have hmx : max v ((w.rq i).val - costL p x.start.toNat (w.rq i).len.toNat x.an.l) = surp w p i v x := rfl
      simp only [rowR, rowW, Sl.v] at hrs k0
      simp (maxSteps := 1000000) only [go_sem, b_s_BoundOf_l2, b_s_BoundOf_r3, g2, g14, g15, g17, g85, g86, ge_dec, k0, k3, k4, hrs, hw1, mx_i, hmx, st, hfin, Nat.reduceEqDiff, Nat.reduceAdd, ↓reduceIte]
  rw [callL_round (hR _) rfl]
  simp only [rowP, Sl.v] at key ⊢
  simp (maxSteps := 1000000) only [go_sem, b_s_BoundOf_a3, finA_n (hR _), hok, setParams_1, Nat.reduceEqDiff, ↓reduceIte]
  simp (maxSteps := 1000000) only [go_sem, b_s_BoundOf_y1, hX, hTX, Nat.reduceEqDiff, Nat.reduceAdd, ↓reduceIte]
  refine key 0 _ _ (Nat.zero_le _) ?_
  exact ⟨h2, h3, h6, h14, h15, by rw [hD]; rfl, rfl, rfl, rfl, rfl, rfl⟩
abbrev bndB (s : Sig) (ρ : Nat → AV) (r : Rec) : Sig := enterLoop (s.push r) (bndL ρ)
theorem bnd_hand {ρ : Nat → AV} {i : Nat} {tk : List (Option Nat)} {o : Own} {e : Nat} {pre : List (List AV)} (hs : Ok s) (hw : Wk w) (hv : PrV w p) (he : p = [] ∨ e = 1)
  (hi : i < w.rs.l.length) (hp0 : pre[0]? = some (rowW w)) (hp1 : pre[1]? = some [.slice o e (p.map rowX)]) (hp2 : pre[2]? = some [OW w]) (h2 : ρ 2 = .ptr s.acts.length 0 0) (h3 : ρ 3 = .ptr s.acts.length 1 0) (h6 : ρ 6 = .ptr s.acts.length 2 0) (h14 : ρ 14 = .ptr s.acts.length pre.length 0) (h15 : ρ 15 = .ptr s.acts.length (pre.length + 1) 0) :
  Hand AP s.loops.length (fun x : P => .agg (rowP x)) (bndB s ρ) (fun done r => (∀ x ∈ done, x ∈ poss w i) ∧ r = ⟨pre ++ [[I i], [I (surpL w p i done)]], tk⟩)
   (fun _ _ => false) (fun _ _ _ => False) (fun x => x ∈ poss w i) (s.acts.length + 1) (s.loops.length + 1) 100000 := by
 refine ⟨fun r => (hs.push _).enter, fun r => by simp [bndB, enterLoop, Sig.push], fun r => by simp [bndB, enterLoop, Sig.push], ?_, fun _ _ _ _ _ _ _ _ h => by cases h⟩
 rintro done x r B ls hd ⟨hI, rfl⟩ hx _
 have hM : Mid (fun r => up (busy s.loops.length (enterLoop (s.push r) (bndL ρ))) B ls) s.acts.length := mid_loop hs
 have hX : ∀ r, busy s.loops.length (up (bndB s ρ r) B ls) = (fun r => up (busy s.loops.length (enterLoop (s.push r) (bndL ρ))) B ls) r := fun r => up_busy (by simp [enterLoop, Sig.push])
 have hsb := surpL_bd hv hw (i := (i : Int)) (by omega) (by omega) hI
 refine ⟨⟨pre ++ [[I i], [I (surpL w p i (done ++ [x]))]], tk⟩, ?_, ?_, rfl⟩
 ·rw [surpL_app]
  exact bnd_round (T := fun r => up (bndB s ρ r) B ls) hM hX (fun r => up_ready (enter_ready (hs.push r))) (fun r => ((hs.push _).enter).up) hw hv he hi hx hp0 hp1 hp2 h2 h3 h6 h14 h15 hsb.1 hsb.2
 ·intro y hy
  rcases List.mem_append.1 hy with h | h
  ·exact hI y h
  ·rw [List.mem_singleton.1 h]; exact hx
end
end Go.Ax.Sx.Sc

namespace Go.Ax.Sx.Sc
open Go.Ax
set_option linter.unusedSimpArgs false
set_option linter.unusedVariables false
set_option maxRecDepth 100000
section
variable {s : Sig} {w : W} {p : List (Sl Int)}
def bndE (w : W) (p : List (Sl Int)) : Int := if (weekE w).2.2 = 0 then prcE w p else (weekE w).2.2
theorem rowB_bd1 {a k : Nat} (h : ∀ t, t < k → 0 ≤ prAt p a t ∧ prAt p a t ≤ 100000) : 0 ≤ rowB w p a k ∧ rowB w p a k ≤ k * 100000 := by
 refine sumN_bd fun t ht => ?_
 have := h t ht
 split <;> omega
theorem totB_bd1 (hw : Wk w) {k : Nat} (h : ∀ a, a < k → ∀ t, 0 ≤ prAt p a t ∧ prAt p a t ≤ 100000) : 0 ≤ totB w p k ∧ totB w p k ≤ k * 20000000 := by
 have hn2 := hw.v.n2
 refine sumN_bd fun a ha => ?_
 have := rowB_bd1 (w := w) (a := a) (k := w.slots.toNat) fun t _ => h a ha t
 omega
theorem s_BoundOf {o : Own} {e : Nat} (hs : Ok s) (hw : w.Ok) (hf : w.Few) (hp : PrOk p) (he : p = [] ∨ e = 1) :
  callL AP (.fn 13) [w.v, .slice o e (p.map rowX)] s = some (.tuple [I (if bndE w p = 0 then bndV w p else 0), I (bndE w p)], s) := by
 by_cases hz : (weekE w).2.2 = 0
 ·have hwk : Wk w := ⟨hw, hf, weekE_ok hz⟩
  have ho : ∀ r, callL AP (.fn 30) [w.v] (s.push r) = some (.tuple [OW w, I 0], s.push r) := fun r => s_open (hs.push r) hw hf hz
  have hal := hwk.v.al
  have hrl := hwk.v.rl
  have hn1 := hwk.v.n1
  have hn2 := hwk.v.n2
  have hpl := hp.len
  have hbe : bndE w p = prcE w p := if_pos hz
  rw [hbe]
  have k0 : PrV w p → ∀ (k : Nat) ρ m, k ≤ w.rs.l.length → (ρ 2 = .ptr s.acts.length 0 0 ∧ ρ 3 = .ptr s.acts.length 1 0 ∧ ρ 6 = .ptr s.acts.length 2 0 ∧ ρ 9 = I (totB w p w.as.l.length + sumS w p k) ∧ ρ 75 = I w.rs.l.length ∧ ρ 76 = I k ∧
    ∃ jk, m = s.push ⟨rowW w :: [.slice o e (p.map rowX)] :: [OW w] :: jk, []⟩) → go AP f_s_BoundOf (.c (.loop b_s_BoundOf_l0) :: k_s_BoundOf_0) ⟨ρ, m⟩ = some (.tuple [I (bndV w p), I 0], s) := by
   intro hv
   have htB := totB_bd hv hwk (Nat.le_refl w.as.l.length)
   refine loop_up w.rs.l.length _ (fun _ => some (.tuple [I (bndV w p), I 0], s)) ?_ ?_
   ·rintro k ρ m hk ⟨g2, g3, g6, g9, g75, g76, jk, rfl⟩ ih
    obtain ⟨pre, hpre⟩ : ∃ pre, pre = rowW w :: [AV.slice o e (p.map rowX)] :: [OW w] :: jk := ⟨_, rfl⟩
    have hp0 : pre[0]? = some (rowW w) := by rw [hpre]; rfl
    have hp1 : pre[1]? = some [.slice o e (p.map rowX)] := by rw [hpre]; rfl
    have hp2 : pre[2]? = some [OW w] := by rw [hpre]; rfl
    have hps : ∀ r, callL AP (.fn 34) [OW w, I (k : Int)] (s.push r) = some (.fn 53 [] [.eptr [OW w] 0, .eptr [I (k : Int)] 0], s.push r) := fun r => w_possible (hs.push r)
    rw [← hpre]
    have hb0 : ∀ (q : List (List AV)), (s.push ⟨pre ++ q, []⟩).box s.acts.length 2 = some [OW w] := fun q => by rw [box_push, List.getElem?_append_left (by rw [hpre]; simp)]; exact hp2
    have hb0' : (s.push ⟨pre, []⟩).box s.acts.length 2 = some [OW w] := by rw [box_push]; exact hp2
    simp only [OW] at hps hb0 hb0'
    simp (maxSteps := 1000000) only [go_sem, b_s_BoundOf_l0, g6, g75, g76, hs, lt_dec hk, hb0, hps, Nat.reduceEqDiff, Nat.reduceAdd, ↓reduceIte]
    have rg : ∀ ρ1 : Nat → AV, ρ1 2 = .ptr s.acts.length 0 0 → ρ1 3 = .ptr s.acts.length 1 0 → ρ1 6 = .ptr s.acts.length 2 0 → ρ1 9 = I (totB w p w.as.l.length + sumS w p k) → ρ1 14 = .ptr s.acts.length pre.length 0 → ρ1 15 = .ptr s.acts.length (pre.length + 1) 0 → ρ1 75 = I w.rs.l.length → ρ1 76 = I k → ρ1 81 = .fn 53 [] [.eptr [OW w] 0, .eptr [I (k : Int)] 0] →
      go AP f_s_BoundOf (.c (.rangeFunc (.tmp 81) [82] b_s_BoundOf_a3 b_s_BoundOf_y1) :: .blk 6 :: .c b_s_BoundOf_r2 :: .blk 5 :: .c b_s_BoundOf_r1 :: .lp b_s_BoundOf_l0 :: k_s_BoundOf_0) ⟨ρ1, s.push ⟨pre ++ [[I (k : Int)], [I 0]], []⟩⟩ = some (.tuple [I (bndV w p), I 0], s) := by
     intro ρ1 q2 q3 q6 q9 q14 q15 q75 q76 q81
     obtain ⟨b, r', hc, hE⟩ := poss_calls (bnd_hand (tk := []) hs hwk hv he hk hp0 hp1 hp2 q2 q3 q6 q14 q15) hwk (req := (k : Int)) (by omega) (by omega) (i := ⟨pre ++ [[I (k : Int)], [I 0]], []⟩) (done := []) (by have := poss_count hwk (i := (k : Int)) (by omega) (by omega); simp; omega) ⟨by simp, rfl⟩ (fun p hp => hp)
     obtain ⟨rfl, _, rfl⟩ := hE.never (fun _ _ => rfl)
     rw [go_range (x := .tmp 81) q81]
     refine (congrArg (Option.bind · _) hc).trans ?_
     simp only [Option.bind_some, List.nil_append]
     refine (goL_normal (m := s.push ⟨pre ++ [[I (k : Int)], [I (surpL w p k (poss w k))]], []⟩) (lp := bndL ρ1) rfl rfl rfl).trans ?_
     have hsb := surpL_bd hv hwk (i := (k : Int)) (by omega) (by omega) (l := poss w k) fun y hy => hy
     have hsS := sumS_bd hv hwk (k := k) (by omega)
     have hw1 : IntKind.i64.wrap (totB w p w.as.l.length + sumS w p k + surpL w p k (poss w k)) = totB w p w.as.l.length + sumS w p (k + 1) := by
      rw [wrap_id (by omega) (by omega)]; simp only [sumS, sumN]; omega
     generalize surpL w p k (poss w k) = sv at *
     simp (maxSteps := 1000000) only [go_sem, b_s_BoundOf_r2, b_s_BoundOf_r1, q9, q15, q76, hw1, wrap_succ hk (show (w.rs.l.length : Int) < _ by omega), Nat.reduceEqDiff, ↓reduceIte]
     refine ih _ _ ?_
     refine ⟨q2, q3, q6, rfl, q75, rfl, jk ++ [[I (k : Int)], [I sv]], ?_⟩
     rw [hpre]; rfl
    refine rg _ ?_ ?_ ?_ ?_ ?_ ?_ ?_ ?_ ?_
    ·exact g2
    ·exact g3
    ·exact g6
    ·exact g9
    ·rfl
    ·rfl
    ·exact g75
    ·exact g76
    ·simp only [OW]; rfl
   ·rintro ρ m ⟨g2, g3, g6, g9, g75, g76, jk, rfl⟩
    simp (maxSteps := 1000000) only [go_sem, b_s_BoundOf_l0, b_s_BoundOf_r0, g9, g75, g76, ge_dec, Nat.reduceEqDiff, ↓reduceIte]
    rfl
  have k5 : ∀ (x : Sl Int) (a : Nat) (R : Option (AV × Sig)), p[a]? = some x → a < w.as.l.length → x.l.length = w.slots.toNat → (∀ a', a' < a → ∀ t, 0 ≤ prAt p a' t ∧ prAt p a' t ≤ 100000) →
    (∀ ρ m, (∀ t, 0 ≤ prAt p a t ∧ prAt p a t ≤ 100000) → (ρ 2 = .ptr s.acts.length 0 0 ∧ ρ 3 = .ptr s.acts.length 1 0 ∧ ρ 6 = .ptr s.acts.length 2 0 ∧ ρ 9 = I (totB w p (a + 1)) ∧ ρ 42 = .slice o e (p.map rowX) ∧ ρ 43 = I p.length ∧ ρ 44 = I ((a + 1 : Nat) : Int) ∧ m = s.push ⟨[rowW w, [.slice o e (p.map rowX)], [OW w]], []⟩) → go AP f_s_BoundOf (.c (.loop b_s_BoundOf_l4) :: k_s_BoundOf_4) ⟨ρ, m⟩ = R) →
    ∀ (k : Nat) ρ m, k ≤ x.l.length → (ρ 2 = .ptr s.acts.length 0 0 ∧ ρ 3 = .ptr s.acts.length 1 0 ∧ ρ 6 = .ptr s.acts.length 2 0 ∧ ρ 9 = I (totB w p a + rowB w p a k) ∧ ρ 10 = I a ∧ ρ 42 = .slice o e (p.map rowX) ∧ ρ 43 = I p.length ∧ ρ 44 = I a ∧ ρ 49 = x.v rowI ∧ ρ 50 = I x.l.length ∧ ρ 51 = I k ∧ (∀ t, t < k → 0 ≤ prAt p a t ∧ prAt p a t ≤ 100000) ∧ m = s.push ⟨[rowW w, [.slice o e (p.map rowX)], [OW w]], []⟩) →
     go AP f_s_BoundOf (.c (.loop b_s_BoundOf_l5) :: k_s_BoundOf_5) ⟨ρ, m⟩ = if (x.l.drop k).all (fun n => wi n 0 100000) = true then R else some (.tuple [I 0, I 2], s) := by
   intro x a R hx ha hxl hpre hR
   have hxm := List.mem_of_getElem? hx
   have hxo := hp.ok x hxm
   have htb := totB_bd1 (p := p) hwk (k := a) hpre
   have hpal : a < p.length := (List.getElem?_eq_some_iff.1 hx).1
   have hi1 : idx (.v (.int .i64 (a : Int))) 4 = some a := idx_nat (by omega)
   refine loop_up x.l.length _ _ ?_ ?_
   ·rintro k ρ m hk ⟨g2, g3, g6, g9, g10, g42, g43, g44, g49, g50, g51, hgd, rfl⟩ ih
    obtain ⟨n, hn⟩ := get_some hk
    have hpr : prAt p a k = n := by simp only [prAt, hx, hn]; rfl
    have hix := Sl.ix (f := rowI) hxo hn
    have hwi : ∀ q, callL AP (.fn 33) [I n, I 0, I 100000] (s.push q) = some (B (wi n 0 100000), s.push q) := fun q => s_within
    have hi2 : idx (.v (.int .i64 (k : Int))) 200 = some k := idx_nat (by omega)
    have hat : (wk w.slots (w.as.v rowA) (w.rs.v rowR) (closedF w.as.l))[0 + 3 + a * 200 + k * 1]? = some (B (clq w.as.l a k)) := by
     rw [show 0 + 3 + a * 200 + k * 1 = 3 + (a * 200 + k) by omega, wk_at (by omega), closedF_eq, show (a * 200 + k) / 200 = a by omega, show (a * 200 + k) % 200 = k by omega]
    have hrb := rowB_bd1 (w := w) hgd
    simp only [rowI, Sl.v] at hix hat
    rw [all_get hn]
    cases hd : wi n 0 100000 with
    | false =>
     rw [hd] at hwi
     simp (maxSteps := 1000000) only [go_sem, b_s_BoundOf_l5, g49, g50, g51, lt_dec hk, hix, hwi, Bool.not_false, Bool.false_and, Nat.reduceEqDiff, reduceCtorEq, ↓reduceIte]
    | true =>
     rw [hd] at hwi
     have hn01 := wi_iff.1 hd
     have hgd2 : ∀ t, t < k + 1 → 0 ≤ prAt p a t ∧ prAt p a t ≤ 100000 := fun t ht => by
      by_cases e : t = k
      ·subst e; rw [hpr]; exact hn01
      ·exact hgd t (by omega)
     cases hq : clq w.as.l a k with
     | true =>
      rw [hq] at hat
      have hst : totB w p a + rowB w p a (k + 1) = totB w p a + rowB w p a k := by simp only [rowB, sumN]; rw [if_pos hq]; omega
      simp only [OW]
      simp (maxSteps := 1000000) only [go_sem, b_s_BoundOf_l5, g6, g10, g49, g50, g51, nilc_e, lt_dec hk, hix, hwi, hi1, hi2, hat, Bool.not_true, Bool.true_and, wrap_succ hk (show (x.l.length : Int) < _ by omega), Nat.reduceEqDiff, Nat.reduceAdd, ↓reduceIte]
      refine ih _ _ ?_
      exact ⟨g2, g3, g6, by rw [hst]; exact g9, g10, g42, g43, g44, g49, g50, rfl, hgd2, rfl⟩
     | false =>
      rw [hq] at hat
      have hst : totB w p a + rowB w p a (k + 1) = totB w p a + rowB w p a k + n := by simp only [rowB, sumN]; rw [if_neg (by simp [hq]), hpr]; omega
      have hw1 : IntKind.i64.wrap (totB w p a + rowB w p a k + n) = totB w p a + rowB w p a (k + 1) := by rw [wrap_id (by omega) (by omega)]; omega
      simp only [OW]
      simp (maxSteps := 1000000) only [go_sem, b_s_BoundOf_l5, g6, g9, g10, g49, g50, g51, nilc_e, lt_dec hk, hix, hwi, hi1, hi2, hat, Bool.not_true, Bool.not_false, Bool.true_and, hw1, wrap_succ hk (show (x.l.length : Int) < _ by omega), Nat.reduceEqDiff, Nat.reduceAdd, ↓reduceIte]
      refine ih _ _ ?_
      exact ⟨g2, g3, g6, rfl, g10, g42, g43, g44, g49, g50, rfl, hgd2, rfl⟩
   ·rintro ρ m ⟨g2, g3, g6, g9, g10, g42, g43, g44, g49, g50, g51, hgd, rfl⟩
    rw [List.drop_length]
    have hall : ∀ t, 0 ≤ prAt p a t ∧ prAt p a t ≤ 100000 := fun t => by
     by_cases h : t < x.l.length
     ·exact hgd t h
     ·have : prAt p a t = 0 := by simp only [prAt, hx, List.getElem?_eq_none (Nat.le_of_not_lt h)]; rfl
      rw [this]; omega
    simp (maxSteps := 1000000) only [go_sem, b_s_BoundOf_l5, b_s_BoundOf_r6, g44, g50, g51, ge_dec, List.all_nil, wrap_succ hpal (show (p.length : Int) < _ by omega), Nat.reduceEqDiff, ↓reduceIte]
    refine hR _ _ hall ?_
    refine ⟨g2, g3, g6, ?_, g42, g43, rfl, rfl⟩
    show ρ 9 = _
    rw [g9, hxl]; rfl
  have k4 : p.length = w.as.l.length → (∀ x ∈ p, (x.l.length : Int) = w.slots) → ∀ (k : Nat) ρ m, k ≤ p.length → (ρ 2 = .ptr s.acts.length 0 0 ∧ ρ 3 = .ptr s.acts.length 1 0 ∧ ρ 6 = .ptr s.acts.length 2 0 ∧ ρ 9 = I (totB w p k) ∧ ρ 42 = .slice o e (p.map rowX) ∧ ρ 43 = I p.length ∧ ρ 44 = I k ∧ (∀ a, a < k → ∀ t, 0 ≤ prAt p a t ∧ prAt p a t ≤ 100000) ∧ m = s.push ⟨[rowW w, [.slice o e (p.map rowX)], [OW w]], []⟩) →
    go AP f_s_BoundOf (.c (.loop b_s_BoundOf_l4) :: k_s_BoundOf_4) ⟨ρ, m⟩ = if (p.drop k).all (fun x => x.l.all fun n => wi n 0 100000) = true then some (.tuple [I (bndV w p), I 0], s) else some (.tuple [I 0, I 2], s) := by
   intro hl hsh
   refine loop_up p.length _ _ ?_ ?_
   ·rintro k ρ m hk ⟨g2, g3, g6, g9, g42, g43, g44, hgd, rfl⟩ ih
    obtain ⟨x, hx⟩ := get_some hk
    have hec : e = 1 := by rcases he with h | h; (rw [h] at hx; simp at hx); exact h
    have hxs := hsh x (List.mem_of_getElem? hx)
    have hix := ix_map (f := rowX) (o := o) (es := 1) hx
    simp only [rowX, Sl.v] at hix
    subst hec
    simp (maxSteps := 1000000) only [go_sem, b_s_BoundOf_l4, g42, g43, g44, lt_dec hk, hix, Nat.reduceEqDiff, ↓reduceIte]
    refine (k5 x k _ hx (by omega) (by omega) hgd (fun ρ m hall h => ih ρ m ?_) 0 _ _ (Nat.zero_le _) ?_).trans ?_
    ·obtain ⟨c2, c3, c6, c9, c42, c43, c44, c⟩ := h
     refine ⟨c2, c3, c6, c9, c42, c43, c44, fun a ha t => ?_, c⟩
     by_cases e : a = k
     ·subst e; exact hall t
     ·exact hgd a (by omega) t
    ·refine ⟨g2, g3, g6, ?_, rfl, g42, g43, g44, rfl, rfl, rfl, fun t ht => absurd ht (Nat.not_lt_zero _), rfl⟩
     show ρ 9 = I (_ + 0)
     rw [Int.add_zero]; exact g9
    ·rw [all_get hx, List.drop_zero]
     cases (x.l.all fun n => wi n 0 100000) <;> simp
   ·rintro ρ m ⟨g2, g3, g6, g9, g42, g43, g44, hgd, rfl⟩
    rw [List.drop_length, List.all_nil, if_pos rfl]
    have hv : PrV w p := ⟨hp, hl, hsh, fun x hx n hn => by
     obtain ⟨a, ha, rfl⟩ := List.getElem_of_mem hx
     obtain ⟨t, ht, rfl⟩ := List.getElem_of_mem hn
     have := hgd a ha t
     have e : prAt p a t = p[a].l[t] := by simp [prAt, ha, ht]
     rw [e] at this; exact this⟩
    simp (maxSteps := 1000000) only [go_sem, b_s_BoundOf_l4, b_s_BoundOf_r5, g2, g43, g44, ge_dec, Nat.reduceEqDiff, Nat.reduceAdd, ↓reduceIte]
    refine k0 hv 0 _ _ (Nat.zero_le _) ?_
    refine ⟨g2, g3, g6, ?_, rfl, rfl, [], rfl⟩
    show ρ 9 = I (_ + 0)
    rw [Int.add_zero, ← hl]; exact g9
  have hcf : ∀ r, callL AP (.fn 32) [.slice o e (p.map rowX), .fn 31 [] [.ptr s.acts.length 0 0]] (s.push ⟨rowW w :: r, []⟩) = some (B (p.any fun x => !decide ((x.l.length : Int) = w.slots)), s.push ⟨rowW w :: r, []⟩) := fun r =>
   z_ContainsFunc_intL he (by omega) fun x hx r q => s_BoundOf_1 (((hs.push _).push _).push _) (box_keep (box_keep box_at0 _) _)
  have h00 : decide ((0 : Int) ≠ 0) = false := rfl
  simp only [W.v, rowW, Sl.v, OW] at ho hcf
  by_cases hl : p.length = w.as.l.length
  ·have hd : decide ((p.length : Int) ≠ (w.as.l.length : Int)) = false := by simp; omega
   cases hany : p.any fun x => !decide ((x.l.length : Int) = w.slots) with
   | true =>
    rw [hany] at hcf
    have hno : ¬ (p.length = w.as.l.length ∧ ∀ x ∈ p, (x.l.length : Int) = w.slots) := by
     rintro ⟨_, h⟩
     obtain ⟨x, hx, hx2⟩ := List.any_eq_true.1 hany
     rw [h x hx] at hx2; simp at hx2
    rw [prcE_shape hno, if_neg (by decide)]
    rw [callL_go (show AP 13 = some c_s_BoundOf from rfl) rfl]
    simp (maxSteps := 1000000) only [go_sem, b_s_BoundOf, hs, ho, h00, hd, hcf, Nat.reduceEqDiff, Nat.reduceAdd, ↓reduceIte]
   | false =>
    rw [hany] at hcf
    have hsh : ∀ x ∈ p, (x.l.length : Int) = w.slots := fun x hx => by
     have := List.any_eq_false.1 hany x hx
     simpa using this
    have hpe : prcE w p = if p.all (fun x => x.l.all fun n => wi n 0 100000) = true then 0 else 2 := if_pos ⟨hl, hsh⟩
    rw [callL_go (show AP 13 = some c_s_BoundOf from rfl) rfl]
    simp (maxSteps := 1000000) only [go_sem, b_s_BoundOf, hs, ho, h00, hd, hcf, Nat.reduceEqDiff, Nat.reduceAdd, ↓reduceIte]
    refine (k4 hl hsh 0 _ _ (Nat.zero_le _) ?_).trans ?_
    ·exact ⟨rfl, rfl, rfl, rfl, rfl, rfl, rfl, fun a ha => absurd ha (Nat.not_lt_zero _), rfl⟩
    ·rw [List.drop_zero, hpe]
     cases (p.all fun x => x.l.all fun n => wi n 0 100000) <;> rfl
  ·have hd : decide ((p.length : Int) ≠ (w.as.l.length : Int)) = true := by simp; omega
   rw [prcE_shape (fun h => hl h.1), if_neg (by decide)]
   rw [callL_go (show AP 13 = some c_s_BoundOf from rfl) rfl]
   simp (maxSteps := 1000000) only [go_sem, b_s_BoundOf, hs, ho, h00, hd, Nat.reduceEqDiff, Nat.reduceAdd, ↓reduceIte]
 ·have ho : ∀ r, callL AP (.fn 30) [w.v] (s.push r) = some (.tuple [NP, I (weekE w).2.2], s.push r) := fun r => s_open_bad (hs.push r) hw hf hz
  have hbe : bndE w p = (weekE w).2.2 := if_neg hz
  rw [hbe, if_neg hz]
  simp only [W.v, rowW, Sl.v] at ho
  rw [callL_go (show AP 13 = some c_s_BoundOf from rfl) rfl]
  simp (maxSteps := 1000000) only [go_sem, b_s_BoundOf, hs, ho, hz, ne_eq, not_false_iff, Nat.reduceEqDiff, Nat.reduceAdd, ↓reduceIte]
end
end Go.Ax.Sx.Sc

namespace Go.Ax.Sx.Sc
open Go.Ax
set_option linter.unusedSimpArgs false
set_option linter.unusedVariables false
set_option maxRecDepth 100000
theorem mk_ints {s : Sig} {bs : List (List AV)} {tk : List (Option Nat)} {n : Nat} (h0 : 0 < n) (hm : n ≤ 4294967296) : mkSliceOp (s.push ⟨bs, tk⟩) 1 [I 0] (I n) (I n) = some (.rsl s.acts.length bs.length 0 1 n n, s.push ⟨bs ++ [List.replicate n (I 0)], tk⟩) := by
 have h1 : asNat (I (n : Int)) most = some n := by simp [asNat, most]; omega
 have h2 : asNat (I (n : Int)) n = some n := by simp [asNat]
 have h3 : (List.replicate n [I 0]).flatten = List.replicate n (I 0) := by
  have : ∀ m : Nat, (List.replicate m [I 0]).flatten = List.replicate m (I 0) := fun m => by
   induction m with
   | zero => rfl
   | succ m ih => rw [List.replicate_succ, List.flatten_cons, ih]; rfl
  exact this n
 have h4 : (List.replicate n (I 0)).isEmpty = false := by cases n with | zero => omega | succ n => rfl
 simp only [mkSliceOp, h1, h2, h3, h4, Option.bind_some, Option.map_some, cur_push, nbox_push, newBox_push]
 rfl
def reps (a : Int) (k n : Nat) : List AV := List.replicate k (I a) ++ List.replicate (n - k) (I 0)
theorem reps_0 {a : Int} {n : Nat} : List.replicate n (I 0) = reps a 0 n := by simp [reps]
theorem reps_n {a : Int} {n : Nat} : reps a n n = (List.replicate n a).map fun x => I x := by simp [reps]
theorem reps_len {a : Int} {k n : Nat} (h : k ≤ n) : (reps a k n).length = n := by simp [reps]; omega
theorem reps_set {a : Int} {k n : Nat} (h : k < n) : overN (reps a k n) (0 + k * 1) [I a] = some (reps a (k + 1) n) := by
 rw [overN_eq, if_pos (by rw [reps_len (by omega)]; simp; omega)]
 obtain ⟨m, hm⟩ : ∃ m, n - k = m + 1 := ⟨n - k - 1, by omega⟩
 have e1 : n - (k + 1) = m := by omega
 simp only [setCells, reps, hm, e1, Nat.zero_add, Nat.mul_one]
 rw [List.replicate_succ, List.replicate_succ' (n := k), List.append_assoc]
 rw [List.set_append_right _ _ (by simp)]
 simp
theorem ix_rslc {d b es n cap : Nat} {i : Nat} (h : i < n) : indexAddrOp none es (.rsl d b 0 es n cap) (I (i : Int)) = some (.ptr d b (0 + i * es)) := by
 have h1 : idx (I (i : Int)) n = some i := by simp [idx]; omega
 simp [indexAddrOp, h1]
theorem close_ints {l : List Int} : closeAll (l.map fun x => I x) = some (l.map fun x => I x) := by
 induction l with
 | nil => rfl
 | cons a r ih => simp only [List.map_cons, closeAll_cons, close_int, ih]; rfl
theorem chunks_ints {l : List Int} : chunks 1 l.length (l.map fun x => I x) = l.map rowI := by
 rw [chunks1 _ _ (by simp), List.take_of_length_le (by simp), List.map_map]; rfl
theorem buildFz_ints {s : Sig} {bs : List (List AV)} {tk : List (Option Nat)} {b cap : Nat} {l : List Int} (hb : bs[b]? = some (l.map fun x => I x)) (h0 : 0 < l.length) :
  buildFzOp (s.push ⟨bs, tk⟩) 1 [.slice .nilS 0 []] (.rsl s.acts.length b 0 1 l.length cap) = some (.slice .full 1 [[.slice .any 1 (l.map rowI)]], s.push ⟨bs.set b [], tk ++ [none]⟩) := by
 have hbox : (s.push ⟨bs, tk⟩).box s.acts.length b = some (l.map fun x => I x) := by rw [box_push]; exact hb
 have hne : (l.map fun x => I x).isEmpty = false := by cases l with | nil => simp at h0 | cons _ _ => rfl
 have hk : (s.push ⟨bs, tk⟩).kill b = s.push ⟨bs.set b [], tk ++ [none]⟩ := by
  unfold Sig.kill
  rw [cur_push, onRec_push]
 have hf : freezeOp (s.push ⟨bs, tk⟩) (.rsl s.acts.length b 0 1 l.length cap) = some (.slice .any 1 (l.map rowI), s.push ⟨bs.set b [], tk ++ [none]⟩) := by
  unfold freezeOp
  simp only
  rw [if_pos (by rw [cur_push]), hbox]
  simp only [Option.bind_some, hne, Bool.false_eq_true, if_false, Nat.zero_add, Nat.mul_one, List.length_map, Nat.le_refl, if_true, close_ints, Option.map_some, List.drop_zero, chunks_ints, hk]
 unfold buildFzOp
 rw [hf]
 simp only [Option.bind_some]
 rfl
theorem GL_app {d es n lo : Nat} {row : List AV} {x : AV} {bs : List (List AV)} {z : List (List AV)} (h : GL d es row n x bs lo) : GL d es row n x (bs ++ z) lo := by
 obtain ⟨h0, h⟩ := h
 refine ⟨by rw [List.length_append]; omega, ?_⟩
 rcases h with h | ⟨hn, b, hlb, hb, hx⟩
 ·exact .inl h
 ·exact .inr ⟨hn, b, hlb, by rw [List.getElem?_append_left (List.getElem?_eq_some_iff.1 hb).1]; exact hb, hx⟩
theorem leave_rsl1 {s : Sig} {r : Rec} {b n cap : Nat} {row : List AV} (h : r.boxes[b]? = some row) (hl : row.length = n) (hc : closeAll row = some row) : leaveVal (s.push r) (.rsl s.acts.length b 0 1 n cap) = some (.slice .any 1 (row.map fun c => [c])) := by
 have hv : leaveVal (s.push r) (.rsl s.acts.length b 0 1 n cap) = leaveCell (s.push r) (.rsl s.acts.length b 0 1 n cap) := rfl
 subst hl
 rw [hv, leaveCell, if_pos (by rw [cur_push]), box_push, h]
 simp only [Option.bind_some, Nat.mul_one, Nat.zero_add, Nat.le_refl, if_true, hc, Option.map_some, List.drop_zero]
 rw [chunks1 _ _ (Nat.le_refl _), List.take_length]
def uniX (n : Nat) (price : Int) : Sl Int := ⟨.any, 1, List.replicate n price⟩
def uniP (w : W) (price : Int) : List (Sl Int) := List.replicate w.as.l.length (uniX w.slots.toNat price)
theorem uniX_ok {n : Nat} {a : Int} : (uniX n a).ok 1 := ⟨.inr rfl, .inl rfl⟩
section
variable {s : Sig} {w : W}
theorem uniP_V (hw : Wk w) {a : Int} (h0 : 0 ≤ a) (h1 : a ≤ 100000) : PrV w (uniP w a) := by
 have hal := hw.v.al
 have hn1 := hw.v.n1
 have hn2 := hw.v.n2
 have key : ∀ x ∈ uniP w a, x = uniX w.slots.toNat a := fun x hx => (List.mem_replicate.1 hx).2
 refine ⟨⟨by simp [uniP]; omega, fun x hx => ?_, fun x hx => ?_⟩, by simp [uniP], fun x hx => ?_, fun x hx n hn => ?_⟩
 ·rw [key x hx]; exact uniX_ok
 ·rw [key x hx]; simp [uniX]; omega
 ·rw [key x hx]; simp [uniX]; omega
 ·rw [key x hx] at hn
  rw [(List.mem_replicate.1 hn).2]; exact ⟨h0, h1⟩
theorem r_Uniform {a : Int} (hs : Ok s) (hw : Wk w) : callL AP (.fn 16) [w.v, I a] s = some (accV 1 ((uniP w a).map rowX), s) := by
 have hal := hw.v.al
 have hn1 := hw.v.n1
 have hn2 := hw.v.n2
 obtain ⟨N, hN⟩ : ∃ N : Nat, w.slots = N := ⟨w.slots.toNat, by omega⟩
 have hNn : w.slots.toNat = N := by omega
 have hN0 : 0 < N := by omega
 have k1 : ∀ (x : AV) (i : Nat) (bs : List (List AV)) (tk : List (Option Nat)) (R : Option (AV × Sig)), (bs[0]? = some (rowW w)) →
   (∀ ρ m, (ρ 1 = I a ∧ ρ 2 = .ptr s.acts.length 0 0 ∧ ρ 5 = x ∧ ρ 6 = I i ∧ ρ 7 = .rsl s.acts.length bs.length 0 1 N N ∧ m = s.push ⟨bs ++ [reps a N N], tk⟩) → go AP f_r_Uniform (.c b_r_Uniform_r2 :: .blk 1 :: .c b_r_Uniform_r1 :: .lp b_r_Uniform_l0 :: k_r_Uniform_0) ⟨ρ, m⟩ = R) →
   ∀ (k : Nat) ρ m, k ≤ N → (ρ 1 = I a ∧ ρ 2 = .ptr s.acts.length 0 0 ∧ ρ 5 = x ∧ ρ 6 = I i ∧ ρ 7 = .rsl s.acts.length bs.length 0 1 N N ∧ ρ 8 = I k ∧ m = s.push ⟨bs ++ [reps a k N], tk⟩) →
    go AP f_r_Uniform (.c (.loop b_r_Uniform_l1) :: k_r_Uniform_1) ⟨ρ, m⟩ = R := by
  intro x i bs tk R hb0 hR
  have hb : ∀ z, (bs ++ [z])[0]? = some (rowW w) := fun z => by rw [List.getElem?_append_left (List.getElem?_eq_some_iff.1 hb0).1]; exact hb0
  simp only [rowW, Sl.v] at hb
  refine loop_up N _ (fun _ => R) ?_ ?_
  ·rintro k ρ m hk ⟨g1, g2, g5, g6, g7, g8, rfl⟩ ih
   have hlt : decide ((k : Int) < w.slots) = true := by simp; omega
   have hix := ix_rslc (d := s.acts.length) (b := bs.length) (es := 1) (cap := N) hk
   have hst := reps_set (a := a) hk
   simp (maxSteps := 1000000) only [go_sem, b_r_Uniform_l1, g1, g2, g7, g8, hs, hb, hlt, hix, hst, wrap_succ hk (show (N : Int) < _ by omega), Nat.reduceEqDiff, Nat.reduceAdd, ↓reduceIte]
   refine ih _ _ ?_
   exact ⟨g1, g2, g5, g6, g7, rfl, rfl⟩
  ·rintro ρ m ⟨g1, g2, g5, g6, g7, g8, rfl⟩
   have hlt : decide ((N : Int) < w.slots) = false := by simp; omega
   simp (maxSteps := 1000000) only [go_sem, b_r_Uniform_l1, g2, g8, hb, hlt, Nat.reduceEqDiff, Nat.reduceAdd, ↓reduceIte]
   refine hR _ _ ?_
   exact ⟨g1, g2, g5, g6, g7, rfl⟩
 have k0 : ∀ (k : Nat) ρ m, k ≤ w.as.l.length → (ρ 1 = I a ∧ ρ 2 = .ptr s.acts.length 0 0 ∧ ρ 6 = I k ∧ ∃ bs tk, GL s.acts.length 1 (List.replicate k ((uniX N a).v rowI)) k (ρ 5) bs 1 ∧ bs[0]? = some (rowW w) ∧ m = s.push ⟨bs, tk⟩) →
   go AP f_r_Uniform (.c (.loop b_r_Uniform_l0) :: k_r_Uniform_0) ⟨ρ, m⟩ = some (accV 1 ((uniP w a).map rowX), s) := by
  refine loop_up w.as.l.length _ (fun _ => some (accV 1 ((uniP w a).map rowX), s)) ?_ ?_
  ·rintro k ρ m hk ⟨g1, g2, g6, bs, tk, hG, hb0, rfl⟩ ih
   obtain ⟨x, hx⟩ : ∃ x, x = ρ 5 := ⟨_, rfl⟩
   rw [← hx] at hG
   have hb0' := hb0
   simp only [rowW, Sl.v] at hb0'
   have hmk := mk_ints (s := s) (bs := bs) (tk := tk) hN0 (by omega)
   simp (maxSteps := 1000000) only [go_sem, b_r_Uniform_l0, g2, g6, hb0', lt_dec hk, hN, hmk, Nat.reduceEqDiff, Nat.reduceAdd, ↓reduceIte]
   refine k1 x k bs tk _ hb0 ?_ 0 _ _ (Nat.zero_le _) ?_
   ·rintro ρ m ⟨q1, q2, q5, q6, q7, rfl⟩
    have hrow : (bs ++ [reps a N N])[bs.length]? = some ((List.replicate N a).map fun x => I x) := by rw [← reps_n]; exact at_len
    have hfz := buildFz_ints (s := s) (bs := bs ++ [reps a N N]) (tk := tk) (cap := N) hrow (by simp; omega)
    rw [List.length_replicate] at hfz
    have hset : (bs ++ [reps a N N]).set bs.length [] = bs ++ [[]] := set_len
    rw [hset] at hfz
    obtain ⟨x', bs', tk', ha, hG', hj⟩ := appm_G (tk := tk ++ [none]) (o := .full) (r2 := [(uniX N a).v rowI]) (GL_app (z := [[]]) hG) (by simp) (by omega)
    simp only [uniX, Sl.v] at ha
    simp (maxSteps := 1000000) only [go_sem, b_r_Uniform_r2, b_r_Uniform_r1, q5, q6, q7, hfz, ha, wrap_succ hk (show (w.as.l.length : Int) < _ by omega), Nat.reduceEqDiff, ↓reduceIte]
    refine ih _ _ ?_
    refine ⟨q1, q2, rfl, bs', tk', ?_, ?_, rfl⟩
    ·rw [List.replicate_succ']; exact hG'
    ·rw [hj 0 (by omega), List.getElem?_append_left (List.getElem?_eq_some_iff.1 hb0).1]; exact hb0
   ·refine ⟨g1, g2, hx.symm, g6, rfl, rfl, ?_⟩
    rw [← reps_0]
  ·rintro ρ m ⟨g1, g2, g6, bs, tk, hG, hb0, rfl⟩
   have hb0' := hb0
   simp only [rowW, Sl.v] at hb0'
   obtain ⟨_, ⟨h2, h3, hx⟩ | ⟨hn2, b, hlb, hb, hx⟩⟩ := hG
   ·have : uniP w a = [] := by unfold uniP; rw [h2]; rfl
    rw [this]
    simp (maxSteps := 1000000) only [go_sem, b_r_Uniform_l0, b_r_Uniform_r0, g2, g6, hx, hb0', ge_dec, Nat.reduceEqDiff, Nat.reduceAdd, ↓reduceIte]
    rfl
   ·have hc : ∀ m : Nat, closeAll (List.replicate m ((uniX N a).v rowI)) = some (List.replicate m ((uniX N a).v rowI)) := fun m => by
     induction m with
     | zero => rfl
     | succ m ih => rw [List.replicate_succ, closeAll_cons, ih]; rfl
    have hlv := leave_rsl1 (s := s) (r := ⟨bs, tk⟩) (b := b) (n := w.as.l.length) (cap := 0) hb (by simp) (hc _)
    have hres : AV.slice .any 1 ((List.replicate w.as.l.length ((uniX N a).v rowI)).map fun c => [c]) = accV 1 ((uniP w a).map rowX) := by
     unfold uniP
     rw [hNn]
     obtain ⟨q, hq⟩ : ∃ q, w.as.l.length = q + 1 := ⟨w.as.l.length - 1, by omega⟩
     rw [hq]; simp [List.replicate_succ, accV]
    rw [← hres]
    generalize (List.replicate w.as.l.length ((uniX N a).v rowI)).map (fun c => [c]) = Z at *
    simp (maxSteps := 1000000) only [go_sem, b_r_Uniform_l0, b_r_Uniform_r0, g2, g6, hx, hb0', ge_dec, hlv, Nat.reduceEqDiff, Nat.reduceAdd, ↓reduceIte]
 rw [callL_go (show AP 16 = some c_r_Uniform from rfl) rfl]
 simp (maxSteps := 1000000) only [go_sem, b_r_Uniform, Nat.reduceAdd]
 refine k0 0 _ _ (Nat.zero_le _) ?_
 exact ⟨rfl, rfl, rfl, _, _, ⟨by simp, .inl ⟨rfl, rfl, rfl⟩⟩, rfl, rfl⟩
end
end Go.Ax.Sx.Sc

namespace Go.Ax.Sx.Sc
open Go.Ax
set_option linter.unusedSimpArgs false
set_option linter.unusedVariables false
set_option maxRecDepth 100000
abbrev U64 (n : Int) : AV := .v (.int .u64 n)
theorem u_bv {a : Nat} (h : a < 4294967296) : (BitVec.ofInt 64 (a : Int)).toNat = a := bv_nat (by rw [p63]; omega)
theorem u_and {n : Nat} (h : n < 4294967296) : arithOp .and (U64 n) (U64 4294967295) = some (U64 n) := by
 have h1 : ((BitVec.ofInt 64 (n : Int) &&& BitVec.ofInt 64 ((4294967295 : Nat) : Int)).toNat : Int) = (n : Int) := by
  rw [BitVec.toNat_and, u_bv h, u_bv (by decide)]
  have : n &&& (2 ^ 32 - 1) = n % 2 ^ 32 := Nat.and_two_pow_sub_one_eq_mod n 32
  have h2 : n &&& 4294967295 = n := by rw [show (4294967295 : Nat) = 2 ^ 32 - 1 by decide, this]; omega
  rw [h2]
 show Option.map AV.v (some (Value.int IntKind.u64 (IntKind.u64.wrap ((BitVec.ofInt 64 (n : Int) &&& BitVec.ofInt 64 (4294967295 : Int)).toNat : Int)))) = _
 have h3 : ((4294967295 : Nat) : Int) = 4294967295 := rfl
 rw [h3] at h1
 rw [h1, u64_id (by omega) (by omega)]; rfl
theorem u_shr {n : Nat} (h : n < 4294967296) : arithOp .shr (U64 n) (U64 32) = some (U64 0) := by
 have h1 : ((n : Int)).fdiv (2 ^ 32) = 0 := by
  rw [Int.fdiv_eq_ediv_of_nonneg _ (by decide)]
  have : (2 : Int) ^ 32 = 4294967296 := by decide
  rw [this]; omega
 show Option.map AV.v (shiftOp .shr .u64 (n : Int) 32) = _
 have h2 : min ((32 : Int)).toNat IntKind.u64.bits = 32 := by decide
 unfold shiftOp
 rw [if_neg (by decide)]
 simp only [h2, h1]; rfl
theorem u_mul {a b : Int} (h0 : 0 ≤ a * b) (h1 : a * b < 18446744073709551616) : arithOp .mul (U64 a) (U64 b) = some (U64 (a * b)) := by
 show Option.map AV.v (some (Value.int IntKind.u64 (IntKind.u64.wrap (a * b)))) = _
 rw [u64_id h0 h1]; rfl
theorem u_add00 : arithOp .add (U64 0) (U64 0) = some (U64 0) := by
 show Option.map AV.v (some (Value.int IntKind.u64 (IntKind.u64.wrap (0 + 0)))) = _
 rw [u64_id (by decide) (by decide)]; rfl
section
variable {s : Sig} {w : W}
theorem bits_Mul64 {n : Nat} (h : n < 4294967296) : callL AP (.fn 86) [U64 1, U64 n] s = some (.tuple [U64 0, U64 n], s) := by
 have a1 := u_and h
 have a2 : arithOp .and (U64 1) (U64 4294967295) = some (U64 1) := u_and (n := 1) (by decide)
 have a3 : arithOp .and (U64 0) (U64 4294967295) = some (U64 0) := u_and (n := 0) (by decide)
 have b1 := u_shr h
 have b2 : arithOp .shr (U64 1) (U64 32) = some (U64 0) := u_shr (n := 1) (by decide)
 have b3 : arithOp .shr (U64 0) (U64 32) = some (U64 0) := u_shr (n := 0) (by decide)
 have c1 : arithOp .mul (U64 1) (U64 n) = some (U64 n) := by rw [u_mul (by omega) (by omega), Int.one_mul]
 have c2 : arithOp .mul (U64 0) (U64 n) = some (U64 0) := by rw [u_mul (by omega) (by omega), Int.zero_mul]
 have c3 : arithOp .mul (U64 1) (U64 0) = some (U64 0) := u_mul (by decide) (by decide)
 have c4 : arithOp .mul (U64 0) (U64 0) = some (U64 0) := u_mul (by decide) (by decide)
 have hl : ∀ m : Sig, leaveVal m (U64 n) = some (U64 n) := fun m => rfl
 have hl0 : ∀ m : Sig, leaveVal m (U64 0) = some (U64 0) := fun m => rfl
 simp only [U64] at *
 rw [callL_go (show AP 86 = some c_math_bits_Mul64 from rfl) rfl]
 simp (maxSteps := 1000000) only [go_sem, b_math_bits_Mul64, a1, a2, a3, b1, b2, b3, c1, c2, c3, c4, u_add00, hl, hl0, Nat.reduceEqDiff, reduceCtorEq, ↓reduceIte]
theorem bits_Mul {n : Nat} (h : n < 4294967296) : callL AP (.fn 56) [U64 1, U64 n] s = some (.tuple [U64 0, U64 n], s) := by
 have hm : ∀ r, callL AP (.fn 86) [U64 1, U64 n] (s.push r) = some (.tuple [U64 0, U64 n], s.push r) := fun r => bits_Mul64 h
 have hl : ∀ m : Sig, leaveVal m (U64 n) = some (U64 n) := fun m => rfl
 have hl0 : ∀ m : Sig, leaveVal m (U64 0) = some (U64 0) := fun m => rfl
 simp only [U64] at *
 rw [callL_go (show AP 56 = some c_math_bits_Mul from rfl) rfl]
 simp (maxSteps := 1000000) only [go_sem, b_math_bits_Mul, hm, hl, hl0, Nat.reduceEqDiff, reduceCtorEq, ↓reduceIte]
theorem setCells_reps {a : Int} {n : Nat} : ∀ {j k : Nat}, k + j ≤ n → setCells (reps a k n) k (List.replicate j (I a)) = reps a (k + j) n
 | 0, k, _ => rfl
 | j + 1, k, h => by
  rw [List.replicate_succ]
  simp only [setCells]
  have hs := reps_set (a := a) (k := k) (n := n) (by omega)
  rw [overN_eq, if_pos (by rw [reps_len (by omega)]; simp; omega)] at hs
  injection hs with hs
  simp only [setCells, Nat.zero_add, Nat.mul_one] at hs
  rw [hs, setCells_reps (j := j) (k := k + 1) (by omega)]
  congr 1; omega
theorem copy_store {a : Int} {n k j : Nat} (hs : Ok s) (h : k + j ≤ n) : (s.push ⟨[reps a k n], []⟩).store j (.ptr s.acts.length 0 k) (.agg (List.replicate j (I a))) = some (s.push ⟨[reps a (k + j) n], []⟩) := by
 rw [store_ptr hs]
 have hf : fitN j (AV.agg (List.replicate j (I a))).cells = true := by
  rw [fitN_iff]
  refine ⟨by simp [AV.cells], ?_⟩
  rw [List.all_eq_true]
  intro x hx
  rw [(List.mem_replicate.1 hx).2]; rfl
 rw [hf, cond_true]
 simp only [List.getElem?_cons_zero, Option.bind_some, AV.cells, List.set_cons_zero]
 rw [overN_eq, if_pos (by rw [reps_len (by omega), List.length_replicate]; exact h), setCells_reps h]; rfl
theorem copy_reps {a : Int} {n k c1 c2 : Nat} (hs : Ok s) (h0 : 0 < k) (h : k < n) : copyOp (s.push ⟨[reps a k n], []⟩) (.rsl s.acts.length 0 k 1 (n - k) c1) (.rsl s.acts.length 0 0 1 k c2) = some (I (min (n - k) k : Nat), s.push ⟨[reps a (k + min (n - k) k) n], []⟩) := by
 have hsrc : (s.push ⟨[reps a k n], []⟩).srcCells (.rsl s.acts.length 0 0 1 k c2) = some (List.replicate k (I a)) := by
  simp only [Sig.srcCells, if_true, box_push, List.getElem?_cons_zero, Option.bind_some]
  rw [if_pos (by rw [reps_len (by omega)]; omega)]
  rw [List.drop_zero]
  unfold reps
  rw [List.take_left' (by simp)]
 have htk : (List.replicate k (I a)).take (n - k) = List.replicate (min (n - k) k) (I a) := by rw [List.take_replicate]
 have hne : (List.replicate (min (n - k) k) (I a)).isEmpty = false := by
  obtain ⟨q, hq⟩ : ∃ q, min (n - k) k = q + 1 := ⟨min (n - k) k - 1, by omega⟩
  rw [hq]; rfl
 have hst := copy_store (a := a) (k := k) (j := min (n - k) k) (n := n) hs (by omega)
 simp only [copyOp, hsrc, if_true, Option.bind_some, htk, hne, Bool.false_eq_true, if_false, List.length_replicate, hst, Option.map_some]
theorem copy_one {a : Int} {n c : Nat} (hs : Ok s) (h : 0 < n) : copyOp (s.push ⟨[reps a 0 n], []⟩) (.rsl s.acts.length 0 0 1 n c) (.slice .full 1 [[I a]]) = some (I 1, s.push ⟨[reps a 1 n], []⟩) := by
 have htk : ([I a] : List AV).take n = List.replicate 1 (I a) := by
  obtain ⟨q, rfl⟩ : ∃ q, n = q + 1 := ⟨n - 1, by omega⟩
  simp
 have hst := copy_store (a := a) (k := 0) (j := 1) (n := n) hs (by omega)
 have hsrc : (s.push ⟨[reps a 0 n], []⟩).srcCells (.slice .full 1 [[I a]]) = some [I a] := rfl
 simp only [copyOp, hsrc, if_true, Option.bind_some, htk, List.length_replicate, hst, Option.map_some]
 rfl
theorem z_Repeat {a : Int} {n : Nat} (hs : Ok s) (h0 : 0 < n) (h1 : n ≤ 100000) : callL AP (.fn 38) [.slice .full 1 [[I a]], I n] s = some ((uniX n a).v rowI, s) := by
 have hm : ∀ r, callL AP (.fn 56) [U64 1, U64 n] (s.push r) = some (.tuple [U64 0, U64 n], s.push r) := fun r => bits_Mul (by omega)
 have hlt0 : decide ((n : Int) < 0) = false := by simp
 have hw1 : IntKind.u64.wrap 1 = 1 := u64_id (by decide) (by decide)
 have hwn : IntKind.u64.wrap (n : Int) = n := u64_id (by omega) (by omega)
 have hin : IntKind.i64.wrap (n : Int) = n := wrap_id (by omega) (by omega)
 have hg0 : arithOp .gtr (U64 0) (U64 0) = some (B false) := rfl
 have hgn : arithOp .gtr (U64 n) (U64 9223372036854775807) = some (B false) := by
  show Option.map AV.v (some (Value.bool (decide ((n : Int) > 9223372036854775807)))) = _
  have : decide ((n : Int) > 9223372036854775807) = false := by simp; omega
  rw [this]; rfl
 have hmk := mk_ints (s := s) (bs := []) (tk := []) h0 (by omega)
 rw [reps_0 (a := a)] at hmk
 simp only [List.length_nil, List.nil_append] at hmk
 have hc1 := copy_one (a := a) (c := n) hs h0
 have key : ∀ (d k : Nat) ρ m, n - k ≤ d → 0 < k → k ≤ n → (ρ 7 = .rsl s.acts.length 0 0 1 n n ∧ ρ 8 = I k ∧ m = s.push ⟨[reps a k n], []⟩) → go AP f_z_Repeat_int (.c (.loop b_z_Repeat_int_l0) :: k_z_Repeat_int_0) ⟨ρ, m⟩ = some ((uniX n a).v rowI, s) := by
  intro d
  induction d with
  | zero =>
   rintro k ρ m hd hk hkn ⟨g7, g8, rfl⟩
   obtain rfl : k = n := by omega
   have hlv := leave_rsl1 (s := s) (r := ⟨[reps a k k], []⟩) (b := 0) (n := k) (cap := k) (row := reps a k k) rfl (by rw [reps_len (Nat.le_refl _)]) (by rw [reps_n]; exact close_ints)
   have hres : AV.slice .any 1 ((reps a k k).map fun c => [c]) = (uniX k a).v rowI := by
    simp [reps, uniX, Sl.v]
   rw [hres] at hlv
   rw [go_loop]
   generalize (uniX k a).v rowI = Z at *
   simp (maxSteps := 1000000) only [go_sem, b_z_Repeat_int_l0, b_z_Repeat_int_r0, g7, g8, len_rsl, ge_dec, hlv, Nat.reduceEqDiff, ↓reduceIte]
  | succ d ih =>
   rintro k ρ m hd hk hkn ⟨g7, g8, rfl⟩
   by_cases hkn2 : k = n
   ·exact ih k ρ _ (by omega) hk hkn ⟨g7, g8, rfl⟩
   ·have hlt : k < n := by omega
    have hs1 : sliceOp (.sl 1) (.rsl s.acts.length 0 0 1 n n) (some (I (k : Int))) none none = some (.rsl s.acts.length 0 k 1 (n - k) (n - k)) := by
     have e1 : loOf (some (I (k : Int))) n = some k := by simp [loOf, asNat]; omega
     simp only [sliceOp, if_true, mxOf, Nat.max_self, Option.bind_some, hiOf, Option.isSome_none, Bool.false_eq_true, if_false, e1, Option.map_some]
     rw [if_neg (by omega)]; simp
    have hs2 : ∃ c, sliceOp (.sl 1) (.rsl s.acts.length 0 0 1 n n) none (some (I (k : Int))) none = some (.rsl s.acts.length 0 0 1 k c) := by
     have e1 : hiOf (some (I (k : Int))) false n n = some k := by simp [hiOf, asNat]; omega
     refine ⟨n - 0, ?_⟩
     simp only [sliceOp, if_true, mxOf, Nat.max_self, Option.bind_some, Option.isSome_none, e1, loOf, Option.map_some]
     rw [if_neg (by omega)]; simp
    obtain ⟨c, hs2⟩ := hs2
    have hcp := copy_reps (a := a) (c1 := n - k) (c2 := c) hs hk hlt
    have hw : IntKind.i64.wrap ((k : Int) + ((min (n - k) k : Nat) : Int)) = ((k + min (n - k) k : Nat) : Int) := by rw [wrap_id (by omega) (by omega)]; omega
    have hih := fun ρ m h => ih (k + min (n - k) k) ρ m (by omega) (by omega) (by omega) h
    generalize min (n - k) k = q at *
    rw [go_loop]
    simp (maxSteps := 1000000) only [go_sem, b_z_Repeat_int_l0, g7, g8, len_rsl, lt_dec hlt, hs1, hs2, hcp, hw, Nat.reduceEqDiff, ↓reduceIte]
    refine hih _ _ ?_
    exact ⟨g7, rfl, rfl⟩
 simp only [U64] at *
 rw [callL_go (show AP 38 = some c_z_Repeat_int from rfl) rfl]
 simp (maxSteps := 1000000) only [go_sem, b_z_Repeat_int, hlt0, hw1, hwn, hm, hg0, hgn, hin, hmk, hc1, Nat.reduceEqDiff, reduceCtorEq, Nat.reduceAdd, Int.cast_ofNat_Int, ↓reduceIte]
 refine key n 1 _ _ (by omega) (by omega) (by omega) ?_
 exact ⟨rfl, rfl, rfl⟩
end
end Go.Ax.Sx.Sc

namespace Go.Ax.Sx.Sc
open Go.Ax
set_option linter.unusedSimpArgs false
set_option linter.unusedVariables false
set_option maxRecDepth 100000
def AccS (d es : Nat) (xs : List (List AV)) (x : AV) (og : Option Nat) (toks : List (Option Nat)) : Prop :=
 match og with
 | none => x = .slice .full es xs
 | some g => x = .slice (.tok d g) es xs ∧ toks[g]? = some (some xs.length)
theorem AccS.append {s : Sig} {es : Nat} {xs : List (List AV)} {x : AV} {og : Option Nat} {toks : List (Option Nat)} (h : AccS s.acts.length es xs x og toks) (hs : Ok s) (o : Own) {ys : List (List AV)} (hy : ys ≠ []) (hl : xs.length + ys.length ≤ 4294967296) :
  ∃ x' og' toks', (∀ boxes, appendOp (s.push ⟨boxes, toks⟩) es x (.slice o es ys) = some (x', s.push ⟨boxes, toks'⟩)) ∧ AccS s.acts.length es (xs ++ ys) x' og' toks' := by
 have hy' : ys.isEmpty = false := by cases ys <;> simp_all
 cases og with
 | none =>
  obtain rfl := h
  refine ⟨.slice (.tok s.acts.length toks.length) es (xs ++ ys), some toks.length, toks ++ [some (xs.length + ys.length)], fun boxes => ?_, ⟨rfl, by simp⟩⟩
  simp [appendOp, hy', Own.isNil, most, hl, ntok_push, addTok_push]
 | some g =>
  obtain ⟨rfl, hg⟩ := h
  refine ⟨.slice (.tok s.acts.length g) es (xs ++ ys), some g, toks.set g (some (xs.length + ys.length)), fun boxes => ?_, ⟨rfl, ?_⟩⟩
  ·simp [appendOp, hy', most, hl, tok_push, hg, ro_push, hs.ro, setTok_push]
  ·rw [List.getElem?_set_self (List.getElem?_eq_some_iff.1 hg).1]; simp
theorem AccS.sl {d es : Nat} {xs : List (List AV)} {x : AV} {og : Option Nat} {toks : List (Option Nat)} (h : AccS d es xs x og toks) : ∃ o, x = .slice o es xs := by
 cases og with
 | none => exact ⟨_, h⟩
 | some g => exact ⟨_, h.1⟩
section
variable {s : Sig} {w : W} {p : List (Sl Int)}
def unitC (r : R) : Int := r.len * r.need
theorem unitC_bd (hw : Wk w) {i : Int} (h0 : 0 ≤ i) (h1 : i < w.rs.l.length) : 1 ≤ unitC (w.rq i) ∧ unitC (w.rq i) ≤ 1200 ∧ 1 ≤ (w.rq i).len ∧ (w.rq i).len ≤ 200 ∧ 1 ≤ (w.rq i).need ∧ (w.rq i).need ≤ 6 := by
 have hq := hw.rq h0 h1
 have hn2 := hw.v.n2
 have b2 := hq.hin
 have b0 := hq.lo0
 have b3 := hq.len1
 have b4 := hq.lenhi
 have b5 := hq.need1
 have b6 := hq.need2
 have b7 := hw.few.an _ (W.rq_mem h0 h1)
 have c1 : (w.rq i).len ≤ 200 := by omega
 have c2 : (w.rq i).need ≤ 6 := by omega
 refine ⟨?_, ?_, b3, c1, b5, c2⟩
 ·have := Int.mul_le_mul b3 b5 (by omega) (by omega)
  simpa [unitC] using this
 ·have := Int.mul_le_mul c1 c2 (by omega) (by omega)
  simpa [unitC] using this
def ubF (w : W) (c : Int) : Int := bndV w (uniP w c)
end
end Go.Ax.Sx.Sc
