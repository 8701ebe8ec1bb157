/- A part of the proof. -/
import Derived.Test.YtgnedioebkiciaaGreatDoorT12
import Derived.Test.YtgnedioebkiciaaGreatDoorT11
import Derived.Test.YtgnedioebkiciaaGreatDoorT10
namespace Go.Ax.Sx.Sc
open Go.Ax
set_option linter.unusedSimpArgs false
set_option linter.unusedVariables false
set_option maxRecDepth 100000
def lexB : List Int → List Int → Bool
 | [], [] => false
 | [], _ :: _ => true
 | _ :: _, [] => false
 | x :: r, y :: t => if x = y then lexB r t else decide (x < y)
def kP (p : P) : List Int := p.req :: p.start :: p.an.l
def cmpP (p q : P) : Int := if lexB (kP p) (kP q) = true then -1 else if lexB (kP q) (kP p) = true then 1 else 0
theorem lexB_irrefl : ∀ {l : List Int}, lexB l l = false
 | [] => rfl
 | x :: r => by simp only [lexB, if_true]; exact lexB_irrefl
theorem cmpP_key {p q : P} (h : kP p = kP q) : cmpP p q = 0 := by
 unfold cmpP; rw [h, lexB_irrefl]; simp
section
variable {s : Sig} {w : W}
theorem b_Before {a b : List Int} {o1 o2 : Own} {e1 e2 : Nat} (h1 : a = [] ∨ e1 = 1) (h2 : b = [] ∨ e2 = 1) (l1 : a.length ≤ 100000) (l2 : b.length ≤ 100000) :
  callL AP (.fn 61) [.slice o1 e1 (a.map rowI), .slice o2 e2 (b.map rowI)] s = some (B (lexB a b), s) := by
 have key : ∀ (k : Nat) ρ m, k ≤ min a.length b.length → (ρ 0 = .slice o1 e1 (a.map rowI) ∧ ρ 1 = .slice o2 e2 (b.map rowI) ∧ ρ 5 = I k ∧ m = s.push ⟨[], []⟩) →
   go AP f_b_Before (.c (.loop b_b_Before_l0) :: k_b_Before_0) ⟨ρ, m⟩ = some (B (lexB (a.drop k) (b.drop k)), s) := by
  refine loop_up (min a.length b.length) _ _ ?_ ?_
  ·rintro k ρ m hk ⟨g0, g1, g5, rfl⟩ ih
   obtain ⟨x, hx⟩ := get_some (l := a) (k := k) (by omega)
   obtain ⟨y, hy⟩ := get_some (l := b) (k := k) (by omega)
   have he1 : e1 = 1 := by rcases h1 with h | h; (rw [h] at hx; simp at hx); exact h
   have he2 : e2 = 1 := by rcases h2 with h | h; (rw [h] at hy; simp at hy); exact h
   subst he1; subst he2
   have ha := ix_map (f := rowI) (o := o1) (es := 1) hx
   have hb := ix_map (f := rowI) (o := o2) (es := 1) hy
   have d1 : decide ((k : Int) < (a.length : Int)) = true := by simp; omega
   have d2 : decide ((k : Int) < (b.length : Int)) = true := by simp; omega
   rw [drop_get hx, drop_get hy, lexB]
   by_cases hxy : x = y
   ·rw [if_pos hxy]
    have hd : decide (¬ x = y) = false := by simp [hxy]
    have hwr : IntKind.i64.wrap ((k : Int) + 1) = ((k + 1 : Nat) : Int) := by rw [wrap_id (by omega) (by omega)]; omega
    simp (maxSteps := 1000000) only [go_sem, b_b_Before_l0, g0, g1, g5, d1, d2, ha, hb, hd, ne_eq, hwr, Nat.reduceEqDiff, reduceCtorEq, ↓reduceIte]
    exact ih _ _ ⟨g0, g1, rfl, rfl⟩
   ·rw [if_neg hxy]
    have hd : decide (¬ x = y) = true := by simp [hxy]
    simp (maxSteps := 1000000) only [go_sem, b_b_Before_l0, g0, g1, g5, d1, d2, ha, hb, hd, ne_eq, Nat.reduceEqDiff, reduceCtorEq, ↓reduceIte]
  ·rintro ρ m ⟨g0, g1, g5, rfl⟩
   by_cases hab : a.length ≤ b.length
   ·have hmin : min a.length b.length = a.length := by omega
    rw [hmin] at g5 ⊢
    have d1 : decide ((a.length : Int) < (a.length : Int)) = false := by simp
    rw [List.drop_length]
    simp (maxSteps := 1000000) only [go_sem, b_b_Before_l0, b_b_Before_r0, g0, g1, g5, d1, Nat.reduceEqDiff, reduceCtorEq, ↓reduceIte]
    by_cases hlt : a.length < b.length
    ·have : ∃ y r, b.drop a.length = y :: r := by
      obtain ⟨y, hy⟩ := get_some hlt
      exact ⟨y, _, drop_get hy⟩
     obtain ⟨y, r, hd⟩ := this
     rw [hd]
     simp only [lexB]
     have : decide ((a.length : Int) < (b.length : Int)) = true := by simp; omega
     rw [this]
    ·rw [List.drop_of_length_le (by omega)]
     simp only [lexB]
     have : decide ((a.length : Int) < (b.length : Int)) = false := by simp; omega
     rw [this]
   ·have hmin : min a.length b.length = b.length := by omega
    rw [hmin] at g5 ⊢
    have d1 : decide ((b.length : Int) < (a.length : Int)) = true := by simp; omega
    have d2 : decide ((b.length : Int) < (b.length : Int)) = false := by simp
    obtain ⟨x, hx⟩ := get_some (l := a) (k := b.length) (by omega)
    have d3 : decide ((a.length : Int) < (b.length : Int)) = false := by simp; omega
    simp (maxSteps := 1000000) only [go_sem, b_b_Before_l0, b_b_Before_r0, g0, g1, g5, d1, d2, d3, Nat.reduceEqDiff, reduceCtorEq, ↓reduceIte]
    rw [drop_get hx, List.drop_length]; rfl
 rw [callL_go (show AP 61 = some c_b_Before from rfl) rfl]
 simp (maxSteps := 1000000) only [go_sem, b_b_Before]
 exact key 0 _ _ (Nat.zero_le _) ⟨rfl, rfl, rfl, rfl⟩
theorem kP_rows {p : P} : [[I p.req], [I p.start]] ++ p.an.l.map rowI = (kP p).map rowI := rfl
theorem r_compare {p q : P} (hs : Ok s) (hp : p.an.ok 1) (hq : q.an.ok 1) (lp : p.an.l.length ≤ 1000) (lq : q.an.l.length ≤ 1000) :
  callL AP (.fn 37) [.agg (rowP p), .agg (rowP q)] s = some (I (cmpP p q), s) := by
 obtain ⟨o1, tk1, ha1, _, _⟩ := app_lit (q := s) (b := []) (tk := []) (lit := [[I p.req], [I p.start]]) (ys := p.an.l.map rowI) (o := p.an.o) (e := p.an.e) (by rcases hp.1 with h | h; exact .inl (by rw [h]; rfl); exact .inr h) (by simp; omega)
 obtain ⟨o2, tk2, ha2, _, _⟩ := app_lit (q := s) (b := []) (tk := tk1) (lit := [[I q.req], [I q.start]]) (ys := q.an.l.map rowI) (o := q.an.o) (e := q.an.e) (by rcases hq.1 with h | h; exact .inl (by rw [h]; rfl); exact .inr h) (by simp; omega)
 rw [kP_rows] at ha1 ha2
 have hb1 : ∀ m : Sig, callL AP (.fn 61) [.slice o1 1 ((kP p).map rowI), .slice o2 1 ((kP q).map rowI)] m = some (B (lexB (kP p) (kP q)), m) := fun m => b_Before (.inr rfl) (.inr rfl) (by simp [kP]; omega) (by simp [kP]; omega)
 have hb2 : ∀ m : Sig, callL AP (.fn 61) [.slice o2 1 ((kP q).map rowI), .slice o1 1 ((kP p).map rowI)] m = some (B (lexB (kP q) (kP p)), m) := fun m => b_Before (.inr rfl) (.inr rfl) (by simp [kP]; omega) (by simp [kP]; omega)
 rw [callL_go (show AP 37 = some c_r_compare from rfl) rfl]
 unfold cmpP
 cases h1 : lexB (kP p) (kP q) with
 | true => simp (maxSteps := 1000000) only [go_sem, b_r_compare, ha1, ha2, hb1, h1, Nat.reduceEqDiff, Nat.reduceAdd, Int.reduceNeg, ↓reduceIte]
 | false =>
  cases h2 : lexB (kP q) (kP p) with
  | true => simp (maxSteps := 1000000) only [go_sem, b_r_compare, ha1, ha2, hb1, hb2, h1, h2, Bool.false_eq_true, Nat.reduceEqDiff, Nat.reduceAdd, Int.reduceNeg, ↓reduceIte]
  | false => simp (maxSteps := 1000000) only [go_sem, b_r_compare, ha1, ha2, hb1, hb2, h1, h2, Bool.false_eq_true, Nat.reduceEqDiff, Nat.reduceAdd, Int.reduceNeg, ↓reduceIte]
structure SmOk (l : List P) : Prop where
 len : l.length ≤ 100000
 ok : ∀ p ∈ l, p.an.ok 1 ∧ p.an.l.length ≤ 1000
end
end Go.Ax.Sx.Sc

namespace Go.Ax.Sx.Sc
open Go.Ax
set_option linter.unusedSimpArgs false
set_option linter.unusedVariables false
set_option maxRecDepth 100000
section
variable {w : W}
def zs (w : W) : List P → List P → Prop
 | _, [] => True
 | a, p :: b => passE w p a = 0 ∧ zs w (a ++ [p]) b
theorem zs_ix : ∀ {b a : List P}, (∀ (j : Nat) x, b[j]? = some x → passE w x (a ++ b.take j) = 0) → zs w a b
 | [], _, _ => trivial
 | p :: b, a, h => by
  refine ⟨?_, zs_ix fun j x hj => ?_⟩
  ·have := h 0 p rfl; simpa using this
  ·have := h (j + 1) x hj
   rw [List.append_assoc]; exact this
theorem zs_first : ∀ {b a : List P} {l : List P}, l = a ++ b → zs w a b → firstAt (fun i x => passE w x (l.take i)) a.length b = none
 | [], _, _, _, _ => rfl
 | p :: b, a, l, hl, h => by
  simp only [firstAt]
  have e : l.take a.length = a := by rw [hl, List.take_left]
  rw [e, if_pos h.1]
  have := zs_first (b := b) (a := a ++ [p]) (l := l) (by rw [hl, List.append_assoc]; rfl) h.2
  rw [List.length_append] at this
  exact this
theorem chk_zs {l : List P} (h : zs w [] l) : chkE w l = (0, 0) := by
 have := zs_first (b := l) (a := []) (l := l) rfl h
 unfold chkE
 rw [show ([] : List P).length = 0 from rfl] at this
 rw [this]
theorem passE_last {p : P} {a : List P} (h : passE w p a = 0) : lastR a < p.req ∧ confs w p a = false := by
 unfold passE at h
 by_cases c1 : wi p.req 0 (w.rs.l.length - 1) = true
 ·rw [if_pos c1] at h
  by_cases c2 : lastR a < p.req
  ·refine ⟨c2, ?_⟩
   rw [if_pos c2] at h
   by_cases c3 : wi p.start (w.rq p.req).lo ((w.rq p.req).hi + 1 - (w.rq p.req).len) = true
   ·rw [if_pos c3] at h
    by_cases c4 : (p.an.l.length : Int) = (w.rq p.req).need
    ·rw [if_pos c4] at h
     by_cases c5 : anE (w.rq p.req) (-1) p.an.l = 0
     ·rw [if_pos c5] at h
      by_cases c6 : (p.an.l.any fun a => !openB w a p.start (w.rq p.req).len) = true
      ·rw [if_pos c6] at h; exact absurd h (by decide)
      ·rw [if_neg c6] at h
       cases hc : confs w p a with
       | false => rfl
       | true => rw [hc] at h; exact absurd h (by decide)
     ·rw [if_neg c5] at h; exact absurd h c5
    ·rw [if_neg c4] at h; exact absurd h (by decide)
   ·rw [if_neg c3] at h; exact absurd h (by decide)
  ·rw [if_neg c2] at h; exact absurd h (by decide)
 ·rw [if_neg c1] at h; exact absurd h (by decide)
theorem lastR_app {a b : List P} (h : b ≠ []) : lastR (a ++ b) = lastR b := by
 unfold lastR
 rw [List.getLast?_append, List.getLast?_eq_some_getLast h]; rfl
theorem zs_len : ∀ {b a : List P}, zs w a b → b ≠ [] → lastR a + b.length < w.rs.l.length
 | [], _, _, h => absurd rfl h
 | p :: b, a, h, _ => by
  have h1 := (passE_last h.1).1
  have h2 := passE_r h.1
  by_cases hb : b = []
  ·subst hb; simp; omega
  ·have := zs_len h.2 hb
   rw [lastR_app (by simp)] at this
   have e : lastR [p] = p.req := rfl
   rw [e] at this
   simp only [List.length_cons]
   omega
theorem zs_max (hw : Wk w) {l : List P} (h : zs w [] l) : l.length ≤ 12 := by
 have hrl := hw.v.rl
 by_cases hl : l = []
 ·subst hl; simp
 ·have := zs_len h hl
  have e : lastR ([] : List P) = -1 := rfl
  rw [e] at this
  omega
theorem anE_sub {r : R} : ∀ {g : List Int} {k : Int}, g.Pairwise (· < ·) → (∀ a ∈ g, a ∈ r.an.l ∧ k < a) → anE r k g = 0
 | [], _, _, _ => rfl
 | a :: t, k, hp, h => by
  have ha := h a (by simp)
  have hm : (r.an.l.any fun b => decide (a = b)) = true := List.any_eq_true.2 ⟨a, ha.1, by simp⟩
  simp only [anE]
  rw [if_pos hm, if_pos ha.2]
  exact anE_sub (List.Pairwise.of_cons hp) fun b hb => ⟨(h b (List.mem_cons_of_mem _ hb)).1, List.rel_of_pairwise_cons hp hb⟩
theorem passE_poss (hw : Wk w) {i : Int} (h0 : 0 ≤ i) (h1 : i < w.rs.l.length) {x : P} (hx : x ∈ poss w i) {a : List P} (hl : lastR a < i) (hc : confs w x a = false) : passE w x a = 0 := by
 obtain ⟨hpin, hr, hs1, hs2, hn, _, hsub, hop⟩ := poss_in hw h0 h1 hx
 have hq := hw.rq h0 h1
 unfold passE
 rw [hr]
 rw [if_pos (wi_iff.2 ⟨h0, by omega⟩), if_pos hl, if_pos (wi_iff.2 ⟨hs1, by omega⟩), if_pos hn]
 have han : anE (w.rq i) (-1) x.an.l = 0 := anE_sub (hq.anord.sublist hsub) fun b hb => ⟨hsub.subset hb, by have := (hq.anin b (hsub.subset hb)).1; omega⟩
 have hno : ¬ (x.an.l.any fun a => !openB w a x.start (w.rq i).len) = true := by
  rw [List.any_eq_true]
  rintro ⟨b, hb, h⟩
  rw [hop b hb] at h; exact absurd h (by decide)
 rw [if_pos han, if_neg hno, hc]
 rfl
end
end Go.Ax.Sx.Sc

namespace Go.Ax.Sx.Sc
open Go.Ax
set_option linter.unusedSimpArgs false
set_option linter.unusedVariables false
set_option maxRecDepth 100000
section
variable {w : W}
theorem possAt_c {i st : Int} (h0 : 0 ≤ i) (h1 : i < w.rs.l.length) : possAt (cW w) i st = possAt w i st := by
 unfold possAt readyA
 rw [cW_rq h0 h1]
 simp only [openB_c]
 rfl
theorem possFrom_c {i : Int} (h0 : 0 ≤ i) (h1 : i < w.rs.l.length) : ∀ {n : Nat} {st : Int}, possFrom (cW w) i st n = possFrom w i st n
 | 0, _ => rfl
 | n + 1, st => by simp only [possFrom]; rw [possAt_c h0 h1, possFrom_c h0 h1]
theorem poss_c {i : Int} (h0 : 0 ≤ i) (h1 : i < w.rs.l.length) : poss (cW w) i = poss w i := by
 unfold poss
 rw [possFrom_c h0 h1, cW_rq h0 h1]; rfl
theorem plcs_c (hw : Wk w) {l : List P} {i : Int} (h0 : 0 ≤ i) (h1 : i < w.rs.l.length) (hl : ∀ x ∈ l, 0 ≤ x.req ∧ x.req < w.rs.l.length) : plcs (cW w) (l.map cP) i = plcs w l i := by
 unfold plcs
 rw [poss_c h0 h1]
 apply List.filter_congr
 intro x hx
 obtain ⟨hpin, hr, _, _, _, han, _⟩ := poss_in hw h0 h1 hx
 have hx2 : cP x = x := by
  unfold cP; rw [← han]
 have := confs_c (w := w) (p := x) (l := l) hpin.r0 hpin.r1 hl
 rw [hx2] at this
 rw [this]
end
end Go.Ax.Sx.Sc

namespace Go.Ax.Sx.Sc
open Go.Ax
set_option linter.unusedSimpArgs false
set_option linter.unusedVariables false
set_option maxRecDepth 100000
theorem lexB_trans : ∀ {a b c : List Int}, lexB a b = true → lexB b c = true → lexB a c = true
 | [], _, [], _, h => by cases ‹List Int› <;> simp [lexB] at h
 | [], _, _ :: _, _, _ => rfl
 | _ :: _, [], _, h, _ => by simp [lexB] at h
 | x :: a, y :: b, [], _, h => by simp [lexB] at h
 | x :: a, y :: b, z :: c, h1, h2 => by
  simp only [lexB] at h1 h2 ⊢
  by_cases hxy : x = y
  ·subst hxy
   rw [if_pos rfl] at h1
   by_cases hyz : x = z
   ·subst hyz
    rw [if_pos rfl] at h2 ⊢
    exact lexB_trans h1 h2
   ·rw [if_neg hyz] at h2 ⊢; exact h2
  ·rw [if_neg hxy, decide_eq_true_eq] at h1
   by_cases hyz : y = z
   ·subst hyz
    rw [if_neg hxy]; simpa using h1
   ·rw [if_neg hyz, decide_eq_true_eq] at h2
    rw [if_neg (by omega)]; simp; omega
theorem lexB_total : ∀ {a b : List Int}, lexB a b = false → lexB b a = false → a = b
 | [], [], _, _ => rfl
 | [], _ :: _, h, _ => by simp [lexB] at h
 | _ :: _, [], _, h => by simp [lexB] at h
 | x :: a, y :: b, h1, h2 => by
  simp only [lexB] at h1 h2
  by_cases hxy : x = y
  ·subst hxy
   rw [if_pos rfl] at h1 h2
   rw [lexB_total h1 h2]
  ·rw [if_neg hxy, decide_eq_false_iff_not] at h1
   rw [if_neg (fun e => hxy (Eq.symm e)), decide_eq_false_iff_not] at h2
   omega
theorem grps_sorted : ∀ {k : Nat} {l : List Int}, l.Pairwise (· < ·) → (grps k l).Pairwise fun a b => lexB a b = true
 | 0, _, _ => by simp [grps]
 | _ + 1, [], _ => by simp [grps]
 | k + 1, x :: r, h => by
  simp only [grps]
  rw [List.pairwise_append]
  refine ⟨?_, grps_sorted (List.Pairwise.of_cons h), ?_⟩
  ·rw [List.pairwise_map]
   refine (grps_sorted (k := k) (List.Pairwise.of_cons h)).imp fun hab => ?_
   simp only [lexB, if_true]; exact hab
  ·intro a ha b hb
   obtain ⟨g, hg, rfl⟩ := List.mem_map.1 ha
   have hbl := grps_len hb
   cases b with
   | nil => simp at hbl
   | cons y t =>
    have hy : y ∈ r := (grps_mem hb).subset (by simp)
    have hxy := List.rel_of_pairwise_cons h hy
    simp only [lexB]
    rw [if_neg (by omega)]; simpa using hxy
section
variable {w : W}
theorem lex_cons {x : Int} {a b : List Int} : lexB (x :: a) (x :: b) = lexB a b := by simp only [lexB, if_true]
theorem possAt_sorted {i st : Int} (hq : (w.rq i).an.l.Pairwise (· < ·)) : (possAt w i st).Pairwise fun a b => lexB (kP a) (kP b) = true := by
 unfold possAt
 rw [List.pairwise_map]
 refine (grps_sorted (List.Pairwise.sublist List.filter_sublist hq)).imp fun hab => ?_
 show lexB (i :: st :: _) (i :: st :: _) = true
 rw [lex_cons, lex_cons]; exact hab
theorem possFrom_sorted {i : Int} (hq : (w.rq i).an.l.Pairwise (· < ·)) : ∀ {n : Nat} {st : Int}, (possFrom w i st n).Pairwise fun a b => lexB (kP a) (kP b) = true
 | 0, _ => List.Pairwise.nil
 | n + 1, st => by
  simp only [possFrom]
  rw [List.pairwise_append]
  refine ⟨possAt_sorted hq, possFrom_sorted hq, ?_⟩
  intro a ha b hb
  obtain ⟨t, h1, _, h3⟩ := possFrom_mem hb
  obtain ⟨g, _, rfl⟩ := List.mem_map.1 ha
  obtain ⟨g2, _, rfl⟩ := List.mem_map.1 h3
  show lexB (i :: st :: _) (i :: t :: _) = true
  rw [lex_cons]
  simp only [lexB]
  rw [if_neg (by omega)]; simp; omega
theorem poss_sorted (hw : Wk w) {i : Int} (h0 : 0 ≤ i) (h1 : i < w.rs.l.length) : (poss w i).Pairwise fun a b => lexB (kP a) (kP b) = true := possFrom_sorted (hw.rq h0 h1).anord
end
def befP : List P → List P → Bool
 | [], [] => false
 | [], _ :: _ => true
 | _ :: _, [] => false
 | x :: r, y :: t => if kP x = kP y then befP r t else lexB (kP x) (kP y)
theorem befP_irrefl : ∀ {l : List P}, befP l l = false
 | [] => rfl
 | x :: r => by simp only [befP, if_true]; exact befP_irrefl
theorem befP_trans : ∀ {a b c : List P}, befP a b = true → befP b c = true → befP a c = true
 | [], _, [], _, h => by cases ‹List P› <;> simp [befP] at h
 | [], _, _ :: _, _, _ => rfl
 | _ :: _, [], _, h, _ => by simp [befP] at h
 | x :: a, y :: b, [], _, h => by simp [befP] at h
 | x :: a, y :: b, z :: c, h1, h2 => by
  simp only [befP] at h1 h2 ⊢
  by_cases hxy : kP x = kP y
  ·rw [if_pos hxy] at h1
   rw [hxy]
   by_cases hyz : kP y = kP z
   ·rw [if_pos hyz] at h2 ⊢
    exact befP_trans h1 h2
   ·rw [if_neg hyz] at h2 ⊢; exact h2
  ·rw [if_neg hxy] at h1
   by_cases hyz : kP y = kP z
   ·rw [if_neg (by rw [← hyz]; exact hxy), ← hyz]; exact h1
   ·rw [if_neg hyz] at h2
    have h3 := lexB_trans h1 h2
    rw [if_neg (by intro e; rw [e, lexB_irrefl] at h3; exact absurd h3 (by decide))]; exact h3
theorem befP_total : ∀ {a b : List P}, befP a b = false → befP b a = false → a.map kP = b.map kP
 | [], [], _, _ => rfl
 | [], _ :: _, h, _ => by simp [befP] at h
 | _ :: _, [], _, h => by simp [befP] at h
 | x :: a, y :: b, h1, h2 => by
  simp only [befP] at h1 h2
  by_cases hxy : kP x = kP y
  ·rw [if_pos hxy] at h1
   rw [if_pos (Eq.symm hxy)] at h2
   rw [List.map_cons, List.map_cons, hxy, befP_total h1 h2]
  ·rw [if_neg hxy] at h1
   rw [if_neg (fun e => hxy (Eq.symm e))] at h2
   exact absurd (lexB_total h1 h2) hxy
theorem befP_app : ∀ {a b c : List P}, befP (a ++ b) (a ++ c) = befP b c
 | [], _, _ => rfl
 | x :: a, b, c => by simp only [List.cons_append, befP, if_true]; exact befP_app
theorem befP_pre {a c : List P} (h : c ≠ []) : befP a (a ++ c) = true := by
 have := befP_app (a := a) (b := []) (c := c)
 rw [List.append_nil] at this
 rw [this]
 cases c with
 | nil => exact absurd rfl h
 | cons _ _ => rfl
end Go.Ax.Sx.Sc

namespace Go.Ax.Sx.Sc
open Go.Ax
set_option linter.unusedSimpArgs false
set_option linter.unusedVariables false
set_option maxRecDepth 100000
section
variable {w : W}
structure ChF (w : W) (l : List (List P)) (c : Nat → P) : Prop where
 mem : ∀ k x, l[k]? = some x → c k ∈ x
 nc : ∀ j k, j < l.length → k < l.length → j ≠ k → conf w (c j) (c k) = false
theorem wo_iff {p x : P} {l : List P} : x ∈ wo w p l ↔ x ∈ l ∧ conf w x p = false := by
 unfold wo
 rw [List.mem_filter]
 simp
theorem er_get {p : P} {l : List (List P)} {s k : Nat} : ((l.eraseIdx s).map (wo w p))[k]? = ((if k < s then l[k]? else l[k + 1]?).map (wo w p)) := by
 rw [List.getElem?_map, List.getElem?_eraseIdx]
theorem fit_of (hw : Wk w) : ∀ (n : Nat) (l : List (List P)), l.length = n → (∀ x ∈ l, ∀ p ∈ x, PIn w p) → fitN' w n l = true → ∃ c, ChF w l c
 | 0, l, hl, _, _ => ⟨fun _ => zeroP, fun k x h => by rw [List.eq_nil_of_length_eq_zero hl] at h; simp at h, fun j k h => by omega⟩
 | n + 1, l, hl, hp, h => by
  have hne : l ≠ [] := by intro e; rw [e] at hl; simp at hl
  have hs := shortI_lt hne
  simp only [fitN'] at h
  generalize shortI l = s at *
  obtain ⟨x, hx⟩ := get_some hs
  rw [List.getD, hx, Option.getD_some, List.any_eq_true] at h
  obtain ⟨p, hpx, hf⟩ := h
  have hxm := List.mem_of_getElem? hx
  have hpp := hp x hxm p hpx
  have hel : ((l.eraseIdx s).map (wo w p)).length = n := by rw [List.length_map, List.length_eraseIdx_of_lt hs]; omega
  obtain ⟨c, hc1, hc2⟩ := fit_of hw n ((l.eraseIdx s).map (wo w p)) hel (fun y hy q hq => by
   obtain ⟨z, hz, rfl⟩ := List.mem_map.1 hy
   exact hp z (List.mem_of_mem_eraseIdx hz) q (wo_iff.1 hq).1) hf
  rw [hel] at hc2
  have key : ∀ k, k < n → ∃ y, l[if k < s then k else k + 1]? = some y ∧ c k ∈ y ∧ conf w (c k) p = false ∧ PIn w (c k) := by
   intro k hk
   obtain ⟨y, hy⟩ := get_some (l := (l.eraseIdx s).map (wo w p)) (k := k) (by omega)
   have hm := hc1 k y hy
   rw [er_get] at hy
   obtain ⟨z, hz, rfl⟩ := Option.map_eq_some_iff.1 hy
   obtain ⟨hm1, hm2⟩ := wo_iff.1 hm
   have hz' : l[if k < s then k else k + 1]? = some z := by
    by_cases h : k < s
    ·rw [if_pos h] at hz ⊢; exact hz
    ·rw [if_neg h] at hz ⊢; exact hz
   exact ⟨z, hz', hm1, hm2, hp z (List.mem_of_getElem? hz') _ hm1⟩
  refine ⟨fun k => if k < s then c k else if k = s then p else c (k - 1), ?_, ?_⟩
  ·intro k y hy
   have hkl := (List.getElem?_eq_some_iff.1 hy).1
   show (if k < s then c k else if k = s then p else c (k - 1)) ∈ y
   by_cases h1 : k < s
   ·rw [if_pos h1]
    obtain ⟨z, hz, hm, _⟩ := key k (by omega)
    rw [if_pos h1, hy] at hz; injection hz with hz; rw [hz]; exact hm
   ·rw [if_neg h1]
    by_cases h2 : k = s
    ·rw [if_pos h2]; subst h2; rw [hx] at hy; injection hy with hy; rw [← hy]; exact hpx
    ·rw [if_neg h2]
     obtain ⟨z, hz, hm, _⟩ := key (k - 1) (by omega)
     rw [if_neg (by omega), show k - 1 + 1 = k by omega, hy] at hz; injection hz with hz; rw [hz]; exact hm
  ·intro j k hj hk hjk
   show conf w (if j < s then c j else if j = s then p else c (j - 1)) (if k < s then c k else if k = s then p else c (k - 1)) = false
   have hcp : ∀ i, i < n → conf w p (c i) = false := fun i hi => by
    obtain ⟨_, _, _, h3, h4⟩ := key i hi
    rw [conf_symm hw hpp h4]; exact h3
   have hcp2 : ∀ i, i < n → conf w (c i) p = false := fun i hi => (key i hi).choose_spec.2.2.1
   by_cases j1 : j < s
   ·rw [if_pos j1]
    by_cases k1 : k < s
    ·rw [if_pos k1]; exact hc2 j k (by omega) (by omega) hjk
    ·rw [if_neg k1]
     by_cases k2 : k = s
     ·rw [if_pos k2]; exact hcp2 j (by omega)
     ·rw [if_neg k2]; exact hc2 j (k - 1) (by omega) (by omega) (by omega)
   ·rw [if_neg j1]
    by_cases j2 : j = s
    ·rw [if_pos j2]
     by_cases k1 : k < s
     ·rw [if_pos k1]; exact hcp k (by omega)
     ·rw [if_neg k1, if_neg (by omega)]; exact hcp (k - 1) (by omega)
    ·rw [if_neg j2]
     by_cases k1 : k < s
     ·rw [if_pos k1]; exact hc2 (j - 1) k (by omega) (by omega) (by omega)
     ·rw [if_neg k1]
      by_cases k2 : k = s
      ·rw [if_pos k2]; exact hcp2 (j - 1) (by omega)
      ·rw [if_neg k2]; exact hc2 (j - 1) (k - 1) (by omega) (by omega) (by omega)
theorem of_fit (hw : Wk w) : ∀ (n : Nat) (l : List (List P)), l.length = n → (∀ x ∈ l, ∀ p ∈ x, PIn w p) → (∃ c, ChF w l c) → fitN' w n l = true
 | 0, _, _, _, _ => rfl
 | n + 1, l, hl, hp, ⟨c, hc1, hc2⟩ => by
  have hne : l ≠ [] := by intro e; rw [e] at hl; simp at hl
  have hs := shortI_lt hne
  simp only [fitN']
  generalize shortI l = s at *
  obtain ⟨x, hx⟩ := get_some hs
  rw [List.getD, hx, Option.getD_some, List.any_eq_true]
  have hel : ((l.eraseIdx s).map (wo w (c s))).length = n := by rw [List.length_map, List.length_eraseIdx_of_lt hs]; omega
  refine ⟨c s, hc1 s x hx, of_fit hw n _ hel (fun y hy q hq => by
   obtain ⟨z, hz, rfl⟩ := List.mem_map.1 hy
   exact hp z (List.mem_of_mem_eraseIdx hz) q (wo_iff.1 hq).1) ⟨fun k => c (if k < s then k else k + 1), fun k y hy => ?_, fun j k hj hk hjk => ?_⟩⟩
  ·have hkl := (List.getElem?_eq_some_iff.1 hy).1
   rw [er_get] at hy
   obtain ⟨z, hz, rfl⟩ := Option.map_eq_some_iff.1 hy
   have hz' : l[if k < s then k else k + 1]? = some z := by
    by_cases h : k < s
    ·rw [if_pos h] at hz ⊢; exact hz
    ·rw [if_neg h] at hz ⊢; exact hz
   exact wo_iff.2 ⟨hc1 _ z hz', hc2 _ _ (List.getElem?_eq_some_iff.1 hz').1 hs (by split <;> omega)⟩
  ·rw [hel] at hj hk
   exact hc2 _ _ (by split <;> omega) (by split <;> omega) (by split <;> split <;> omega)
theorem fit_iff (hw : Wk w) {l : List (List P)} (hp : ∀ x ∈ l, ∀ p ∈ x, PIn w p) : fit w l = true ↔ ∃ c, ChF w l c :=
 ⟨fit_of hw l.length l rfl hp, of_fit hw l.length l rfl hp⟩
end
end Go.Ax.Sx.Sc

namespace Go.Ax.Sx.Sc
open Go.Ax
set_option linter.unusedSimpArgs false
set_option linter.unusedVariables false
set_option maxRecDepth 100000
section
variable {w : W}
theorem woS_iff {q : P} : ∀ {plan : List P} {x : Sl P}, q ∈ (woS w plan x).l ↔ q ∈ x.l ∧ ∀ p ∈ plan, conf w q p = false
 | [], x => by simp [woS]
 | p :: r, x => by
  have h : woS w (p :: r) x = woS w r (acS 3 (wo w p x.l)) := rfl
  rw [h, woS_iff (plan := r), acS_l, wo_iff]
  simp only [List.mem_cons, forall_eq_or_imp]
  constructor
  ·rintro ⟨⟨h1, h2⟩, h3⟩; exact ⟨h1, h2, h3⟩
  ·rintro ⟨h1, h2, h3⟩; exact ⟨⟨h1, h2⟩, h3⟩
theorem plcs_nil {i : Int} : plcs w [] i = poss w i := by
 unfold plcs
 rw [List.filter_eq_self]
 intro x _; rfl
theorem free_get {i : Nat} (h : i < w.rs.l.length) : (freeC w).getD i default = (acS 3 (poss w (i : Int)), true) := by
 unfold freeC freeUp
 rw [List.getD, List.getElem?_map, List.getElem?_range h]
 simp only [Option.map_some, Option.getD_some, plcs_nil]
def opn (pl : List P) (m : Nat) : List Int := (mems m).filter fun i => (pOf pl i).isNone
theorem mems_iff {m : Nat} {i : Int} (hm : m < 2 ^ 62) : i ∈ mems m ↔ 0 ≤ i ∧ m.testBit i.toNat = true := by
 unfold mems memsUp
 simp only [List.mem_map, List.mem_filter, List.mem_range]
 constructor
 ·rintro ⟨k, ⟨h1, h2⟩, rfl⟩; exact ⟨by omega, by simpa using h2⟩
 ·rintro ⟨h0, h1⟩
  refine ⟨i.toNat, ⟨?_, h1⟩, by omega⟩
  apply Classical.byContradiction
  intro h
  have : m < 2 ^ i.toNat := Nat.lt_of_lt_of_le hm (Nat.pow_le_pow_right (by decide) (by omega))
  rw [Nat.testBit_lt_two_pow this] at h1
  exact absurd h1 (by decide)
theorem mems_asc {m : Nat} : (mems m).Pairwise (· < ·) := by
 unfold mems memsUp
 rw [List.pairwise_map]
 refine (List.Pairwise.filter _ List.pairwise_lt_range).imp fun h => by omega
theorem fits_iff (hw : Wk w) {pl : List P} {m : Nat} (hm : m < 2 ^ w.rs.l.length) :
  fitsB w (freeC w) pl m = true ↔ ∃ f : Int → P, (∀ i ∈ opn pl m, f i ∈ poss w i ∧ ∀ p ∈ pl, conf w (f i) p = false) ∧ (∀ i ∈ opn pl m, ∀ j ∈ opn pl m, i ≠ j → conf w (f i) (f j) = false) := by
 have hrl := hw.v.rl
 have hm62 : m < 2 ^ 62 := Nat.lt_of_lt_of_le hm (Nat.pow_le_pow_right (by decide) (by omega))
 have hin : ∀ i ∈ opn pl m, 0 ≤ i ∧ i < w.rs.l.length := by
  intro i hi
  obtain ⟨h0, h1⟩ := (mems_iff hm62).1 (List.mem_filter.1 hi).1
  refine ⟨h0, ?_⟩
  apply Classical.byContradiction
  intro h
  have : m < 2 ^ i.toNat := Nat.lt_of_lt_of_le hm (Nat.pow_le_pow_right (by decide) (by omega))
  rw [Nat.testBit_lt_two_pow this] at h1
  exact absurd h1 (by decide)
 have hasc : (opn pl m).Pairwise (· < ·) := List.Pairwise.filter _ mems_asc
 have hls : (opS w (freeC w) pl (mems m)).map (·.l) = (opn pl m).map fun i => (woS w pl ((freeC w).getD i.toNat default).1).l := by
  unfold opS opn
  rw [List.map_map]; rfl
 unfold fitsB
 rw [hls]
 have hget : ∀ i ∈ opn pl m, ∀ q, q ∈ (woS w pl ((freeC w).getD i.toNat default).1).l ↔ q ∈ poss w i ∧ ∀ p ∈ pl, conf w q p = false := by
  intro i hi q
  obtain ⟨h0, h1⟩ := hin i hi
  rw [free_get (by omega), woS_iff, acS_l, show ((i.toNat : Nat) : Int) = i by omega]
 generalize opn pl m = L at *
 have hP : ∀ x ∈ L.map (fun i => (woS w pl ((freeC w).getD i.toNat default).1).l), ∀ p ∈ x, PIn w p := by
  intro x hx p hp
  obtain ⟨i, hi, rfl⟩ := List.mem_map.1 hx
  obtain ⟨h0, h1⟩ := hin i hi
  exact (poss_in hw h0 h1 ((hget i hi p).1 hp).1).1
 rw [fit_iff hw hP]
 constructor
 ·rintro ⟨c, hc1, hc2⟩
  refine ⟨fun i => c (L.idxOf i), fun i hi => ?_, fun i hi j hj hij => ?_⟩
  ·have hk : L[L.idxOf i]? = some i := by
    rw [List.getElem?_eq_getElem (List.idxOf_lt_length_iff.2 hi), List.getElem_idxOf]
   have := hc1 (L.idxOf i) _ (by rw [List.getElem?_map, hk]; rfl)
   exact (hget i hi _).1 this
  ·refine hc2 _ _ ?_ ?_ ?_
   ·rw [List.length_map]; exact List.idxOf_lt_length_iff.2 hi
   ·rw [List.length_map]; exact List.idxOf_lt_length_iff.2 hj
   ·intro e
    apply hij
    have h1 : L[L.idxOf i]? = some i := by rw [List.getElem?_eq_getElem (List.idxOf_lt_length_iff.2 hi), List.getElem_idxOf]
    have h2 : L[L.idxOf j]? = some j := by rw [List.getElem?_eq_getElem (List.idxOf_lt_length_iff.2 hj), List.getElem_idxOf]
    rw [e, h2] at h1; injection h1 with h1; exact Eq.symm h1
 ·rintro ⟨f, hf1, hf2⟩
  refine ⟨fun k => f (L.getD k 0), fun k x hx => ?_, fun j k hj hk hjk => ?_⟩
  ·rw [List.getElem?_map] at hx
   obtain ⟨i, hi, rfl⟩ := Option.map_eq_some_iff.1 hx
   have hm2 := List.mem_of_getElem? hi
   show f (L.getD k 0) ∈ _
   have e0 : L.getD k 0 = i := by rw [List.getD, hi]; rfl
   rw [e0]
   exact (hget i hm2 _).2 (hf1 i hm2)
  ·rw [List.length_map] at hj hk
   obtain ⟨a, ha⟩ := get_some hj
   obtain ⟨b, hb⟩ := get_some hk
   show conf w (f (L.getD j 0)) (f (L.getD k 0)) = false
   rw [List.getD, List.getD, ha, hb, Option.getD_some, Option.getD_some]
   refine hf2 a (List.mem_of_getElem? ha) b (List.mem_of_getElem? hb) ?_
   intro e
   subst e
   have hpw := List.pairwise_iff_getElem.1 hasc
   obtain ⟨_, ea⟩ := List.getElem?_eq_some_iff.1 ha
   obtain ⟨_, eb⟩ := List.getElem?_eq_some_iff.1 hb
   rcases Nat.lt_or_gt_of_ne hjk with h | h
   ·have := hpw j k hj hk h; omega
   ·have := hpw k j hk hj h; omega
end
end Go.Ax.Sx.Sc

namespace Go.Ax.Sx.Sc
open Go.Ax
set_option linter.unusedSimpArgs false
set_option linter.unusedVariables false
set_option maxRecDepth 100000
section
variable {w : W}
structure VP (w : W) (R : List P) : Prop where
 mem : ∀ p ∈ R, 0 ≤ p.req ∧ p.req < w.rs.l.length ∧ p ∈ poss w p.req
 asc : R.Pairwise fun a b => a.req < b.req
 nc : R.Pairwise fun a b => conf w a b = false
theorem VP.nil : VP w [] := ⟨fun _ h => absurd h (by simp), List.Pairwise.nil, List.Pairwise.nil⟩
theorem VP.pin (hw : Wk w) {R : List P} (h : VP w R) : ∀ p ∈ R, PIn w p := fun p hp => by
 obtain ⟨h0, h1, h2⟩ := h.mem p hp
 exact (poss_in hw h0 h1 h2).1
theorem VP.pre {a b : List P} (h : VP w (a ++ b)) : VP w a :=
 ⟨fun p hp => h.mem p (List.mem_append_left _ hp), (List.pairwise_append.1 h.asc).1, (List.pairwise_append.1 h.nc).1⟩
theorem own_bit : ∀ {R : List P} {o i : Nat}, (R.foldl (fun o p => o ||| 2 ^ p.req.toNat) o).testBit i = (o.testBit i || R.any fun p => decide (p.req.toNat = i))
 | [], o, i => by simp
 | p :: r, o, i => by
  rw [List.foldl_cons, own_bit (R := r), Nat.testBit_or, Nat.testBit_two_pow, List.any_cons, Bool.or_assoc]
theorem ownM_bit {R : List P} {i : Nat} : (ownM R).testBit i = R.any fun p => decide (p.req.toNat = i) := by
 unfold ownM
 rw [own_bit]; simp
theorem ownM_lt2 {R : List P} {n : Nat} (h : ∀ p ∈ R, p.req.toNat < n) : ownM R < 2 ^ n := by
 apply Nat.lt_pow_two_of_testBit
 intro i hi
 rw [ownM_bit, List.any_eq_false]
 intro p hp
 have := h p hp
 simp; omega
theorem sumV_map {w : W} : ∀ {R : List P}, sumV w (R.map (·.req)) = valP w R
 | [] => rfl
 | p :: r => by simp only [List.map_cons, sumV, valP]; rw [sumV_map]
theorem asc_eq : ∀ {a b : List Int}, a.Pairwise (· < ·) → b.Pairwise (· < ·) → (∀ x, x ∈ a ↔ x ∈ b) → a = b
 | [], [], _, _, _ => rfl
 | [], y :: b, _, _, h => absurd ((h y).2 (by simp)) (by simp)
 | x :: a, [], _, _, h => absurd ((h x).1 (by simp)) (by simp)
 | x :: a, y :: b, ha, hb, h => by
  have h1 := List.pairwise_cons.1 ha
  have h2 := List.pairwise_cons.1 hb
  have hxy : x = y := by
   rcases List.mem_cons.1 ((h x).1 (by simp)) with e | e
   ·exact e
   ·rcases List.mem_cons.1 ((h y).2 (by simp)) with e2 | e2
    ·exact Eq.symm e2
    ·have := h1.1 y e2; have := h2.1 x e; omega
  subst hxy
  congr 1
  refine asc_eq h1.2 h2.2 fun z => ?_
  constructor
  ·intro hz
   rcases List.mem_cons.1 ((h z).1 (List.mem_cons_of_mem _ hz)) with e | e
   ·subst e; have := h1.1 z hz; omega
   ·exact e
  ·intro hz
   rcases List.mem_cons.1 ((h z).2 (List.mem_cons_of_mem _ hz)) with e | e
   ·subst e; have := h2.1 z hz; omega
   ·exact e
theorem VP.own_lt {R : List P} (h : VP w R) : ownM R < 2 ^ w.rs.l.length := ownM_lt2 fun p hp => by have := (h.mem p hp).1; have := (h.mem p hp).2.1; omega
theorem VP.reqs (hw : Wk w) {R : List P} (h : VP w R) : mems (ownM R) = R.map (·.req) := by
 have hrl := hw.v.rl
 have hlt : ownM R < 2 ^ 62 := Nat.lt_of_lt_of_le h.own_lt (Nat.pow_le_pow_right (by decide) (by omega))
 refine asc_eq mems_asc (by rw [List.pairwise_map]; exact h.asc) fun x => ?_
 rw [mems_iff hlt, ownM_bit, List.any_eq_true]
 simp only [List.mem_map, decide_eq_true_eq]
 constructor
 ·rintro ⟨h0, p, hp, he⟩
  have := (h.mem p hp).1
  exact ⟨p, hp, by omega⟩
 ·rintro ⟨p, hp, rfl⟩
  exact ⟨(h.mem p hp).1, p, hp, rfl⟩
theorem VP.val (hw : Wk w) {R : List P} (h : VP w R) : worthB w (ownM R) = valP w R := by
 unfold worthB
 rw [h.reqs hw, sumV_map]
end
end Go.Ax.Sx.Sc

namespace Go.Ax.Sx.Sc
open Go.Ax
set_option linter.unusedSimpArgs false
set_option linter.unusedVariables false
set_option maxRecDepth 100000
section
variable {w : W}
theorem VP.sep (hw : Wk w) {R : List P} (h : VP w R) {p q : P} (hp : p ∈ R) (hq : q ∈ R) (hne : p.req ≠ q.req) : conf w p q = false := by
 obtain ⟨i, hi⟩ := List.getElem?_of_mem hp
 obtain ⟨j, hj⟩ := List.getElem?_of_mem hq
 obtain ⟨hil, hie⟩ := List.getElem?_eq_some_iff.1 hi
 obtain ⟨hjl, hje⟩ := List.getElem?_eq_some_iff.1 hj
 have hpw := List.pairwise_iff_getElem.1 h.nc
 rcases Nat.lt_trichotomy i j with hij | hij | hij
 ·have := hpw i j hil hjl hij
  rwa [hie, hje] at this
 ·subst hij
  rw [hi] at hj; injection hj with hj
  exact absurd (by rw [hj]) hne
 ·have := hpw j i hjl hil hij
  rw [hie, hje] at this
  rw [conf_symm hw (h.pin hw p hp) (h.pin hw q hq)]; exact this
theorem pOf_some {l : List P} {i : Int} {p : P} (h : pOf l i = some p) : p ∈ l ∧ p.req = i := by
 unfold pOf at h
 exact ⟨List.mem_of_find?_eq_some h, by simpa using List.find?_some h⟩
theorem pOf_none {l : List P} {i : Int} (h : (pOf l i).isNone = true) : ∀ p ∈ l, p.req ≠ i := by
 intro p hp he
 unfold pOf at h
 rw [Option.isNone_iff_eq_none, List.find?_eq_none] at h
 exact h p hp (by simpa using he)
theorem pOf_ex {l : List P} {i : Int} (h : ∃ p ∈ l, p.req = i) : ∃ p, pOf l i = some p := by
 obtain ⟨p, hp, he⟩ := h
 unfold pOf
 have : (l.find? fun x => decide (x.req = i)).isSome = true := List.find?_isSome.2 ⟨p, hp, by simpa using he⟩
 exact Option.isSome_iff_exists.1 this
theorem fits_of_plan (hw : Wk w) {pl rest : List P} (h : VP w (pl ++ rest)) : fitsB w (freeC w) pl (ownM (pl ++ rest)) = true := by
 have hrl := hw.v.rl
 rw [fits_iff hw h.own_lt]
 have hop : ∀ i ∈ opn pl (ownM (pl ++ rest)), ∃ p, pOf (pl ++ rest) i = some p ∧ p ∈ pl ++ rest ∧ p.req = i ∧ ∀ q ∈ pl, q.req ≠ i := by
  intro i hi
  obtain ⟨h1, h2⟩ := List.mem_filter.1 hi
  rw [h.reqs hw, List.mem_map] at h1
  obtain ⟨p, hp⟩ := pOf_ex h1
  exact ⟨p, hp, (pOf_some hp).1, (pOf_some hp).2, pOf_none h2⟩
 refine ⟨fun i => (pOf (pl ++ rest) i).getD zeroP, fun i hi => ?_, fun i hi j hj hij => ?_⟩
 ·obtain ⟨p, hp, hm, hr, hno⟩ := hop i hi
  show (pOf (pl ++ rest) i).getD zeroP ∈ _ ∧ ∀ q ∈ pl, conf w ((pOf (pl ++ rest) i).getD zeroP) q = false
  rw [hp, Option.getD_some]
  refine ⟨by rw [← hr]; exact (h.mem p hm).2.2, fun q hq => ?_⟩
  exact h.sep hw hm (List.mem_append_left _ hq) (by rw [hr]; exact fun e => hno q hq (Eq.symm e))
 ·obtain ⟨p, hp, hm, hr, _⟩ := hop i hi
  obtain ⟨q, hq, hm2, hr2, _⟩ := hop j hj
  show conf w ((pOf (pl ++ rest) i).getD zeroP) ((pOf (pl ++ rest) j).getD zeroP) = false
  rw [hp, hq, Option.getD_some, Option.getD_some]
  exact h.sep hw hm hm2 (by rw [hr, hr2]; exact hij)
theorem plan_of_fits (hw : Wk w) {pl : List P} {m k : Nat} (h : VP w pl) (hk : ∀ p ∈ pl, p.req < k) (hm : m < 2 ^ w.rs.l.length) (hlow : ∀ i, i < k → m.testBit i = (ownM pl).testBit i) (hf : fitsB w (freeC w) pl m = true) :
  ∃ rest, VP w (pl ++ rest) ∧ ownM (pl ++ rest) = m ∧ ∀ p ∈ rest, (k : Int) ≤ p.req := by
 have hrl := hw.v.rl
 have hm62 : m < 2 ^ 62 := Nat.lt_of_lt_of_le hm (Nat.pow_le_pow_right (by decide) (by omega))
 obtain ⟨f, hf1, hf2⟩ := (fits_iff hw hm).1 hf
 have hop : ∀ i ∈ opn pl m, 0 ≤ i ∧ i < w.rs.l.length ∧ m.testBit i.toNat = true ∧ (k : Int) ≤ i ∧ ∀ q ∈ pl, q.req ≠ i := by
  intro i hi
  obtain ⟨h1, h2⟩ := List.mem_filter.1 hi
  obtain ⟨h3, h4⟩ := (mems_iff hm62).1 h1
  have hno := pOf_none h2
  refine ⟨h3, (mems_lt hm h1).2, h4, ?_, hno⟩
  apply Classical.byContradiction
  intro hlt
  rw [hlow i.toNat (by omega), ownM_bit, List.any_eq_true] at h4
  obtain ⟨p, hp, he⟩ := h4
  have := (h.mem p hp).1
  exact hno p hp (by simp at he; omega)
 have hasc : (opn pl m).Pairwise (· < ·) := List.Pairwise.filter _ mems_asc
 have hreq : ∀ i ∈ opn pl m, (f i).req = i := fun i hi => by
  obtain ⟨h0, h1, _⟩ := hop i hi
  exact (poss_in hw h0 h1 (hf1 i hi).1).2.1
 have hpin : ∀ i ∈ opn pl m, PIn w (f i) := fun i hi => by
  obtain ⟨h0, h1, _⟩ := hop i hi
  exact (poss_in hw h0 h1 (hf1 i hi).1).1
 have hR : VP w (pl ++ (opn pl m).map f) := by
  refine ⟨fun p hp => ?_, ?_, ?_⟩
  ·rcases List.mem_append.1 hp with hp | hp
   ·exact h.mem p hp
   ·obtain ⟨i, hi, rfl⟩ := List.mem_map.1 hp
    obtain ⟨h0, h1, _⟩ := hop i hi
    rw [hreq i hi]
    exact ⟨h0, h1, (hf1 i hi).1⟩
  ·rw [List.pairwise_append]
   refine ⟨h.asc, ?_, fun a ha b hb => ?_⟩
   ·rw [List.pairwise_map]
    refine hasc.imp_of_mem fun {a b} ha hb hab => ?_
    rw [hreq a ha, hreq b hb]; exact hab
   ·obtain ⟨i, hi, rfl⟩ := List.mem_map.1 hb
    have := hk a ha
    have := (hop i hi).2.2.2.1
    rw [hreq i hi]; omega
  ·rw [List.pairwise_append]
   refine ⟨h.nc, ?_, fun a ha b hb => ?_⟩
   ·rw [List.pairwise_map]
    refine hasc.imp_of_mem fun {a b} ha hb hab => ?_
    exact hf2 a ha b hb (by omega)
   ·obtain ⟨i, hi, rfl⟩ := List.mem_map.1 hb
    rw [conf_symm hw (h.pin hw a ha) (hpin i hi)]
    exact (hf1 i hi).2 a ha
 refine ⟨(opn pl m).map f, hR, ?_, fun p hp => ?_⟩
 ·apply Nat.eq_of_testBit_eq
  intro i
  rw [ownM_bit, List.any_append, Bool.eq_iff_iff, Bool.or_eq_true, List.any_eq_true, List.any_eq_true]
  constructor
  ·rintro (⟨p, hp, he⟩ | ⟨p, hp, he⟩)
   ·have h0 := (h.mem p hp).1
    have h1 := hk p hp
    have he' : p.req.toNat = i := by simpa using he
    rw [hlow i (by omega), ownM_bit, List.any_eq_true]
    exact ⟨p, hp, he⟩
   ·obtain ⟨j, hj, rfl⟩ := List.mem_map.1 hp
    have he' : (f j).req.toNat = i := by simpa using he
    rw [hreq j hj] at he'
    rw [← he']; exact (hop j hj).2.2.1
  ·intro hb
   by_cases hex : ∃ p ∈ pl, p.req.toNat = i
   ·obtain ⟨p, hp, he⟩ := hex
    exact .inl ⟨p, hp, by simpa using he⟩
   ·right
    have hi : (i : Int) ∈ opn pl m := by
     refine List.mem_filter.2 ⟨(mems_iff hm62).2 ⟨by omega, by simpa using hb⟩, ?_⟩
     rw [Option.isNone_iff_eq_none]
     unfold pOf
     rw [List.find?_eq_none]
     intro p hp he
     have : p.req = (i : Int) := by simpa using he
     exact hex ⟨p, hp, by omega⟩
    refine ⟨f i, List.mem_map.2 ⟨i, hi, rfl⟩, ?_⟩
    rw [hreq _ hi]; simp
 ·obtain ⟨i, hi, rfl⟩ := List.mem_map.1 hp
  rw [hreq i hi]; exact (hop i hi).2.2.2.1
end
end Go.Ax.Sx.Sc

namespace Go.Ax.Sx.Sc
open Go.Ax
set_option linter.unusedSimpArgs false
set_option linter.unusedVariables false
set_option maxRecDepth 100000
section
variable {w : W}
theorem perm_true {all : List (Sl P × Bool)} {m : Nat} : ∀ {k : Nat}, (∀ c ∈ all, c.2 = true) → permF m k all = true := by
 induction all with
 | nil => intro k _; rfl
 | cons c r ih =>
  intro k h
  simp only [permF]
  rw [h c (by simp), Bool.true_or, Bool.true_and]
  exact ih fun x hx => h x (List.mem_cons_of_mem _ hx)
theorem perm_free {m : Nat} : permB (freeC w) m = true := by
 unfold permB
 refine perm_true fun c hc => ?_
 unfold freeC freeUp at hc
 obtain ⟨i, _, rfl⟩ := List.mem_map.1 hc
 rfl
theorem sets_spec : ∀ {N : Nat}, (∀ m, m ∈ (setsF w (freeC w) N).2 ↔ m < N ∧ fitsB w (freeC w) [] m = true ∧ worthB w m = (setsF w (freeC w) N).1) ∧ (∀ m, m < N → fitsB w (freeC w) [] m = true → worthB w m ≤ (setsF w (freeC w) N).1)
 | 0 => ⟨fun m => by simp [setsF], fun m h => by omega⟩
 | N + 1 => by
  obtain ⟨h1, h2⟩ := sets_spec (N := N)
  rw [setsF_s]
  unfold stepM
  rw [perm_free, Bool.true_and]
  cases hf : fitsB w (freeC w) [] N with
  | false =>
   rw [Bool.and_false, if_neg (by decide)]
   refine ⟨fun m => ?_, fun m hm hfm => ?_⟩
   ·rw [h1]
    constructor
    ·rintro ⟨a, b, c⟩; exact ⟨by omega, b, c⟩
    ·rintro ⟨a, b, c⟩
     have : m ≠ N := by intro e; rw [e, hf] at b; exact absurd b (by decide)
     exact ⟨by omega, b, c⟩
   ·have : m ≠ N := by intro e; rw [e, hf] at hfm; exact absurd hfm (by decide)
    exact h2 m (by omega) hfm
  | true =>
   rw [Bool.and_true]
   by_cases hle : (setsF w (freeC w) N).1 ≤ worthB w N
   ·rw [if_pos (by simpa using hle)]
    by_cases hlt : (setsF w (freeC w) N).1 < worthB w N
    ·rw [if_pos hlt]
     refine ⟨fun m => ?_, fun m hm hfm => ?_⟩
     ·simp only [List.mem_singleton]
      constructor
      ·rintro rfl; exact ⟨by omega, hf, rfl⟩
      ·rintro ⟨a, b, c⟩
       apply Classical.byContradiction
       intro hne
       have := h2 m (by omega) b
       omega
     ·show worthB w m ≤ worthB w N
      by_cases e : m = N
      ·rw [e]; exact Int.le_refl _
      ·have := h2 m (by omega) hfm; omega
    ·rw [if_neg hlt]
     refine ⟨fun m => ?_, fun m hm hfm => ?_⟩
     ·simp only [List.mem_append, List.mem_singleton]
      rw [h1]
      constructor
      ·rintro (⟨a, b, c⟩ | rfl)
       ·exact ⟨by omega, b, c⟩
       ·exact ⟨by omega, hf, by omega⟩
      ·rintro ⟨a, b, c⟩
       by_cases e : m = N
       ·exact .inr e
       ·exact .inl ⟨by omega, b, c⟩
     ·show worthB w m ≤ (setsF w (freeC w) N).1
      by_cases e : m = N
      ·rw [e]; omega
      ·exact h2 m (by omega) hfm
   ·rw [if_neg (by simpa using hle)]
    refine ⟨fun m => ?_, fun m hm hfm => ?_⟩
    ·rw [h1]
     constructor
     ·rintro ⟨a, b, c⟩; exact ⟨by omega, b, c⟩
     ·rintro ⟨a, b, c⟩
      by_cases e : m = N
      ·subst e; omega
      ·exact ⟨by omega, b, c⟩
    ·by_cases e : m = N
     ·subst e; omega
     ·exact h2 m (by omega) hfm
def maxV (w : W) : Int := (setsF w (freeC w) (2 ^ w.rs.l.length)).1
def maxS (w : W) : List Nat := (setsF w (freeC w) (2 ^ w.rs.l.length)).2
theorem VP.le_max (hw : Wk w) {R : List P} (h : VP w R) : valP w R ≤ maxV w := by
 have := fits_of_plan hw (pl := []) (rest := R) (by simpa using h)
 rw [List.nil_append] at this
 have h2 := (sets_spec (w := w) (N := 2 ^ w.rs.l.length)).2 (ownM R) h.own_lt this
 rwa [h.val hw] at h2
theorem VP.in_max (hw : Wk w) {R : List P} (h : VP w R) : ownM R ∈ maxS w ↔ valP w R = maxV w := by
 have hf := fits_of_plan hw (pl := []) (rest := R) (by simpa using h)
 rw [List.nil_append] at hf
 rw [show maxS w = (setsF w (freeC w) (2 ^ w.rs.l.length)).2 from rfl, (sets_spec (w := w) (N := 2 ^ w.rs.l.length)).1]
 rw [h.val hw]
 exact ⟨fun h => h.2.2, fun hv => ⟨h.own_lt, hf, hv⟩⟩
theorem max_ex (hw : Wk w) : ∃ R, VP w R ∧ valP w R = maxV w := by
 have h0 : ownM ([] : List P) < 2 ^ w.rs.l.length := (VP.nil (w := w)).own_lt
 have hle := (VP.nil (w := w)).le_max hw
 have hv0 : valP w [] = 0 := rfl
 have key : ∀ N, (setsF w (freeC w) N).1 = -1 ∨ ∃ m, m ∈ (setsF w (freeC w) N).2 := by
  intro N
  induction N with
  | zero => left; rfl
  | succ N ih =>
   rw [setsF_s]; unfold stepM
   split
   ·split
    ·right; exact ⟨N, by simp⟩
    ·right; exact ⟨N, by simp⟩
   ·exact ih
 rcases key (2 ^ w.rs.l.length) with h | ⟨m, hm⟩
 ·have : maxV w = -1 := h
  omega
 ·obtain ⟨h1, h2, h3⟩ := (sets_spec (w := w) (N := 2 ^ w.rs.l.length)).1 m |>.1 hm
  obtain ⟨R, hR, ho, _⟩ := plan_of_fits hw (pl := []) (k := 0) VP.nil (fun p hp => absurd hp (by simp)) h1 (fun i hi => by omega) h2
  rw [List.nil_append] at hR ho
  exact ⟨R, hR, by rw [← hR.val hw, ho]; exact h3⟩
end
end Go.Ax.Sx.Sc

namespace Go.Ax.Sx.Sc
open Go.Ax
set_option linter.unusedSimpArgs false
set_option linter.unusedVariables false
set_option maxRecDepth 100000
section
variable {w : W}
theorem nextF_first {all : List (Sl P × Bool)} {plan : List P} {own : Nat} {sets : List Nat} {q : P} {j : Nat} (hq : (all.getD j default).1.l.find? (nextOk w all plan own sets j) = some q) :
  ∀ {n i : Nat}, i ≤ j → j < i + n → (∀ i', i ≤ i' → i' < j → (all.getD i' default).1.l.find? (nextOk w all plan own sets i') = none) → nextF w all plan own sets i n = some q
 | 0, i, h1, h2, _ => by omega
 | n + 1, i, h1, h2, h3 => by
  simp only [nextF]
  by_cases e : i = j
  ·subst e; rw [hq]
  ·rw [h3 i (Nat.le_refl _) (by omega)]
   exact nextF_first hq (by omega) (by omega) fun i' a b => h3 i' (by omega) b
theorem fromI_le {pl : List P} {w : W} (h : VP w pl) {i : Int} : ((fromI pl : Nat) : Int) ≤ i → ∀ p ∈ pl, p.req < i := by
 intro hi p hp
 unfold fromI at hi
 cases hl : pl.getLast? with
 | none => rw [List.getLast?_eq_none_iff] at hl; subst hl; exact absurd hp (by simp)
 | some z =>
  rw [hl] at hi
  simp only at hi
  have hz := (h.mem z (List.mem_of_getLast? hl)).1
  have hpz : p.req ≤ z.req := by
   obtain ⟨a, ha⟩ := List.getLast?_eq_some_iff.1 hl
   rw [ha, List.mem_append, List.mem_singleton] at hp
   rcases hp with hp | rfl
   ·have := h.asc
    rw [ha, List.pairwise_append] at this
    exact Int.le_of_lt (this.2.2 p hp z (by simp))
   ·exact Int.le_refl _
  omega
theorem fromI_ge {pl t : List P} {q : P} {w : W} (h : VP w (pl ++ q :: t)) : fromI pl ≤ q.req.toNat := by
 unfold fromI
 cases hl : pl.getLast? with
 | none => exact Nat.zero_le _
 | some z =>
  have hzm := List.mem_of_getLast? hl
  have hz := (h.mem z (List.mem_append_left _ hzm)).1
  have := h.asc
  rw [List.pairwise_append] at this
  have := this.2.2 z hzm q (by simp)
  show z.req.toNat + 1 ≤ q.req.toNat
  omega
theorem bits_low {m o i : Nat} : m &&& (2 ^ (i + 1) - 1) = o ||| 2 ^ i ↔ ∀ j, ((m.testBit j && decide (j < i + 1)) = (o.testBit j || decide (i = j))) := by
 constructor
 ·intro h j
  have := congrArg (fun x => Nat.testBit x j) h
  simp only [Nat.testBit_and, Nat.testBit_two_pow_sub_one, Nat.testBit_or, Nat.testBit_two_pow] at this
  exact this
 ·intro h
  apply Nat.eq_of_testBit_eq
  intro j
  rw [Nat.testBit_and, Nat.testBit_two_pow_sub_one, Nat.testBit_or, Nat.testBit_two_pow]
  exact h j
theorem confs_none {p : P} {l : List P} : confs w p l = false ↔ ∀ q ∈ l, conf w q p = false := by
 unfold confs
 rw [List.any_eq_false]
 constructor
 ·intro h q hq; simpa using h q hq
 ·intro h q hq; simpa using h q hq
theorem next_plan (hw : Wk w) {pl : List P} (h : VP w pl) {i : Nat} (hi : fromI pl ≤ i) (hin : i < w.rs.l.length) {p : P} (hp : p ∈ poss w (i : Int)) (ho : nextOk w (freeC w) pl (ownM pl) (maxS w) i p = true) :
  ∃ rest, VP w (pl ++ p :: rest) ∧ valP w (pl ++ p :: rest) = maxV w := by
 unfold nextOk at ho
 rw [Bool.and_eq_true] at ho
 obtain ⟨hc, hs⟩ := ho
 have hc : confs w p pl = false := by simpa using hc
 obtain ⟨m, hm, hm2⟩ := List.any_eq_true.1 hs
 rw [Bool.and_eq_true, decide_eq_true_eq] at hm2
 obtain ⟨hlow, hfit⟩ := hm2
 obtain ⟨hpin, hr, _⟩ := poss_in hw (show (0 : Int) ≤ (i : Int) by omega) (by omega) hp
 have hreq := fromI_le h (i := (i : Int)) (by omega)
 have h1 : VP w (pl ++ [p]) := by
  refine ⟨fun q hq => ?_, ?_, ?_⟩
  ·rw [List.mem_append, List.mem_singleton] at hq
   rcases hq with hq | rfl
   ·exact h.mem q hq
   ·rw [hr]; exact ⟨by omega, by omega, hp⟩
  ·rw [List.pairwise_append]
   refine ⟨h.asc, List.pairwise_singleton _ _, fun a ha b hb => ?_⟩
   rw [List.mem_singleton] at hb; subst hb
   rw [hr]; exact hreq a ha
  ·rw [List.pairwise_append]
   refine ⟨h.nc, List.pairwise_singleton _ _, fun a ha b hb => ?_⟩
   rw [List.mem_singleton] at hb; subst hb
   exact confs_none.1 hc a ha
 obtain ⟨hmlt, hmf, hmv⟩ := (sets_spec (w := w) (N := 2 ^ w.rs.l.length)).1 m |>.1 hm
 have hb := bits_low.1 hlow
 obtain ⟨rest, hR, hown, _⟩ := plan_of_fits hw (pl := pl ++ [p]) (m := m) (k := i + 1) h1 (fun q hq => by
  rw [List.mem_append, List.mem_singleton] at hq
  rcases hq with hq | rfl
  ·have := hreq q hq; omega
  ·rw [hr]; omega) hmlt (fun j hj => by
  have := hb j
  rw [decide_eq_true hj, Bool.and_true] at this
  rw [this, ownM_app, Nat.testBit_or, hr, Nat.testBit_two_pow]; simp) hfit
 rw [List.append_assoc, List.singleton_append] at hR hown
 exact ⟨rest, hR, by rw [← hR.val hw, hown]; exact hmv⟩
theorem growP_first (hw : Wk w) {Q : List P} (hQ : VP w Q) (hv : valP w Q = maxV w) (hmin : ∀ R, VP w R → valP w R = maxV w → befP R Q = false) :
  ∀ (fuel : Nat) (pl t : List P), Q = pl ++ t → t.length < fuel → growP w (freeC w) (maxS w) fuel pl = Q
 | 0, _, _, _, h => absurd h (Nat.not_lt_zero _)
 | fuel + 1, pl, t, hq, hl => by
  simp only [growP]
  have hpl : VP w pl := by rw [hq] at hQ; exact hQ.pre
  cases t with
  | nil =>
   rw [List.append_nil] at hq
   subst hq
   rw [if_pos (List.any_eq_true.2 ⟨ownM Q, (hQ.in_max hw).2 hv, by simp⟩)]
  | cons q t =>
   rw [if_neg (by
    intro h
    obtain ⟨m, hm, he⟩ := List.any_eq_true.1 h
    have he : ownM pl = m := by simpa using he
    rw [← he] at hm
    have := hmin pl hpl ((hpl.in_max hw).1 hm)
    rw [hq, befP_pre (by simp)] at this
    exact absurd this (by decide))]
   have hQ' := hQ
   rw [hq] at hQ'
   obtain ⟨q0, q1, qp⟩ := hQ'.mem q (by simp)
   have hlen : (freeC w).length = w.rs.l.length := by unfold freeC freeUp; simp
   have hjq : ((q.req.toNat : Nat) : Int) = q.req := by omega
   have hfr := fromI_ge hQ'
   have hnext : nextB w (freeC w) pl (ownM pl) (maxS w) = some q := by
    unfold nextB
    rw [hlen]
    refine nextF_first (j := q.req.toNat) ?_ hfr (by omega) ?_
    ·rw [free_get (by omega), acS_l, hjq]
     rw [List.find?_eq_some_iff_append]
     have hsorted := poss_sorted hw q0 q1
     obtain ⟨as, bs, hab⟩ := List.append_of_mem qp
     refine ⟨?_, as, bs, hab, fun p hp => ?_⟩
     · -- q itself may come next
      unfold nextOk
      rw [Bool.and_eq_true]
      refine ⟨?_, List.any_eq_true.2 ⟨ownM Q, (hQ.in_max hw).2 hv, ?_⟩⟩
      ·have : confs w q pl = false := confs_none.2 fun a ha => by
        have := hQ'.nc
        rw [List.pairwise_append] at this
        exact this.2.2 a ha q (by simp)
       rw [this]; rfl
      ·rw [Bool.and_eq_true, decide_eq_true_eq]
       constructor
       ·rw [bits_low]
        intro j
        rw [hq, ownM_bit, ownM_bit, List.any_append, List.any_cons]
        have hasc := hQ'.asc
        rw [List.pairwise_append, List.pairwise_cons] at hasc
        have ht : ∀ x ∈ t, q.req < x.req := hasc.2.1.1
        have hpq : ∀ x ∈ pl, x.req < q.req := fun x hx => hasc.2.2 x hx q (by simp)
        have h0 : ∀ x ∈ pl, 0 ≤ x.req := fun x hx => (hpl.mem x hx).1
        by_cases hj : j < q.req.toNat + 1
        ·rw [decide_eq_true hj, Bool.and_true]
         have : (t.any fun p => decide (p.req.toNat = j)) = false := by
          rw [List.any_eq_false]; intro x hx; have := ht x hx; simp; omega
         rw [this, Bool.or_false]
        ·rw [decide_eq_false hj, Bool.and_false]
         have h1 : (pl.any fun p => decide (p.req.toNat = j)) = false := by
          rw [List.any_eq_false]; intro x hx; have := hpq x hx; have := h0 x hx; simp; omega
         rw [h1, decide_eq_false (by omega)]; rfl
       ·rw [hq, show pl ++ q :: t = (pl ++ [q]) ++ t by simp]
        exact fits_of_plan hw (by rw [List.append_assoc]; exact hQ')
     · -- an earlier one would give an earlier plan
      rw [Bool.not_eq_true']
      cases ho : nextOk w (freeC w) pl (ownM pl) (maxS w) q.req.toNat p with
      | false => rfl
      | true =>
       have hpm : p ∈ poss w q.req := by rw [hab]; simp [hp]
       obtain ⟨rest, hR, hRv⟩ := next_plan hw hpl hfr (by omega) (by rw [hjq]; exact hpm) ho
       have := hmin _ hR hRv
       rw [hq, befP_app] at this
       have hlt : lexB (kP p) (kP q) = true := by
        rw [hab, List.pairwise_append] at hsorted
        exact hsorted.2.2 p hp q (by simp)
       simp only [befP] at this
       rw [if_neg (by intro e; rw [e, lexB_irrefl] at hlt; exact absurd hlt (by decide)), hlt] at this
       exact absurd this (by decide)
    ·intro i' h1 h2
     rw [free_get (by omega), acS_l, List.find?_eq_none]
     intro p hp ho
     obtain ⟨rest, hR, hRv⟩ := next_plan hw hpl h1 (by omega) hp ho
     have := hmin _ hR hRv
     rw [hq, befP_app] at this
     have hr := (poss_in hw (show (0 : Int) ≤ (i' : Int) by omega) (by omega) hp).2.1
     have hlt : lexB (kP p) (kP q) = true := by
      unfold kP
      simp only [lexB]
      rw [if_neg (by omega)]; simp; omega
     simp only [befP] at this
     rw [if_neg (by intro e; rw [e, lexB_irrefl] at hlt; exact absurd hlt (by decide)), hlt] at this
     exact absurd this (by decide)
   rw [hnext]
   exact growP_first hw hQ hv hmin fuel (pl ++ [q]) t (by rw [hq]; simp) (by simp at hl; omega)
theorem best_first (hw : Wk w) {Q : List P} (hQ : VP w Q) (hv : valP w Q = maxV w) (hmin : ∀ R, VP w R → valP w R = maxV w → befP R Q = false) : bestW w = (Q, maxV w, true) := by
 have hlen : (freeC w).length = w.rs.l.length := by unfold freeC freeUp; simp
 have hle := (VP.nil (w := w)).le_max hw
 have hv0 : valP w [] = 0 := rfl
 unfold bestW bestB
 rw [hlen]
 rw [if_neg (show ¬ (setsF w (freeC w) (2 ^ w.rs.l.length)).1 < 0 from by show ¬ maxV w < 0; omega)]
 have hql : Q.length < w.rs.l.length + 1 := by
  have : ∀ (l : List P) (k : Int), 0 ≤ k → l.Pairwise (fun a b => a.req < b.req) → (∀ p ∈ l, k ≤ p.req ∧ p.req < w.rs.l.length) → (l.length : Int) ≤ w.rs.l.length - k ∨ l = [] := by
   intro l
   induction l with
   | nil => intro _ _ _ _; right; rfl
   | cons x r ih =>
    intro k hk hp hm
    left
    have hx := hm x (by simp)
    have hp' := List.pairwise_cons.1 hp
    rcases ih (x.req + 1) (by omega) hp'.2 (fun p hp2 => ⟨by have := hp'.1 p hp2; omega, (hm p (List.mem_cons_of_mem _ hp2)).2⟩) with h | h
    ·simp only [List.length_cons]; omega
    ·subst h; simp; omega
  rcases this Q 0 (by omega) hQ.asc (fun p hp => ⟨(hQ.mem p hp).1, (hQ.mem p hp).2.1⟩) with h | h
  ·omega
  ·subst h; simp
 have := growP_first hw hQ hv hmin (w.rs.l.length + 1) [] Q rfl hql
 rw [show (setsF w (freeC w) (2 ^ w.rs.l.length)).2 = maxS w from rfl, this]
 rfl
end
end Go.Ax.Sx.Sc

namespace Go.Ax.Sx.Sc
open Go.Ax
set_option linter.unusedSimpArgs false
set_option linter.unusedVariables false
set_option maxRecDepth 100000
section
variable {w : W}
def pls (w : W) (rq : List Int) : Nat → Nat → List P → List (List P)
 | _, 0, l => [l]
 | i, k + 1, l => pls w rq (i + 1) k l ++ if (rq.any fun x => decide (x = (i : Int))) = true then (plcs w l i).flatMap fun p => pls w rq (i + 1) k (l ++ [p]) else []
theorem VP.snoc (hw : Wk w) {l : List P} (h : VP w l) {i : Nat} (hi : ∀ p ∈ l, p.req < i) (hin : i < w.rs.l.length) {p : P} (hp : p ∈ plcs w l i) : VP w (l ++ [p]) ∧ p.req = i := by
 obtain ⟨hpp, hc⟩ := List.mem_filter.1 hp
 have hc : confs w p l = false := by simpa using hc
 obtain ⟨hpin, hr, _⟩ := poss_in hw (show (0 : Int) ≤ (i : Int) by omega) (by omega) hpp
 refine ⟨⟨fun q hq => ?_, ?_, ?_⟩, hr⟩
 ·rw [List.mem_append, List.mem_singleton] at hq
  rcases hq with hq | rfl
  ·exact h.mem q hq
  ·rw [hr]; exact ⟨by omega, by omega, hpp⟩
 ·rw [List.pairwise_append]
  refine ⟨h.asc, List.pairwise_singleton _ _, fun a ha b hb => ?_⟩
  rw [List.mem_singleton] at hb; subst hb
  rw [hr]; exact hi a ha
 ·rw [List.pairwise_append]
  refine ⟨h.nc, List.pairwise_singleton _ _, fun a ha b hb => ?_⟩
  rw [List.mem_singleton] at hb; subst hb
  exact confs_none.1 hc a ha
theorem pls_iff (hw : Wk w) {rq : List Int} : ∀ {k i : Nat} {l X : List P}, i + k = w.rs.l.length → VP w l → (∀ p ∈ l, p.req < i) →
  (X ∈ pls w rq i k l ↔ VP w X ∧ ∃ t, X = l ++ t ∧ ∀ p ∈ t, (i : Int) ≤ p.req ∧ p.req ∈ rq)
 | 0, i, l, X, hk, hl, hi => by
  simp only [pls, List.mem_singleton]
  constructor
  ·rintro rfl; exact ⟨hl, [], by simp, fun p hp => absurd hp (by simp)⟩
  ·rintro ⟨hX, t, rfl, ht⟩
   cases t with
   | nil => simp
   | cons p t =>
    have h1 := (hX.mem p (by simp)).2.1
    have h2 := (ht p (by simp)).1
    omega
 | k + 1, i, l, X, hk, hl, hi => by
  simp only [pls, List.mem_append]
  rw [pls_iff hw (k := k) (i := i + 1) (by omega) hl fun p hp => by have := hi p hp; omega]
  constructor
  ·rintro (⟨hX, t, rfl, ht⟩ | h)
   ·exact ⟨hX, t, rfl, fun p hp => ⟨by have := (ht p hp).1; omega, (ht p hp).2⟩⟩
   ·by_cases hr : (rq.any fun x => decide (x = (i : Int))) = true
    ·rw [if_pos hr, List.mem_flatMap] at h
     obtain ⟨p, hp, hX⟩ := h
     obtain ⟨hv, hpr⟩ := hl.snoc hw hi (by omega) hp
     rw [pls_iff hw (k := k) (i := i + 1) (by omega) hv fun q hq => by
      rw [List.mem_append, List.mem_singleton] at hq
      rcases hq with hq | rfl
      ·have := hi q hq; omega
      ·omega] at hX
     obtain ⟨hX, t, rfl, ht⟩ := hX
     refine ⟨hX, p :: t, by simp, fun q hq => ?_⟩
     rcases List.mem_cons.1 hq with rfl | hq
     ·refine ⟨by omega, ?_⟩
      obtain ⟨x, hx, he⟩ := List.any_eq_true.1 hr
      rw [hpr, ← of_decide_eq_true he]; exact hx
     ·exact ⟨by have := (ht q hq).1; omega, (ht q hq).2⟩
    ·rw [if_neg hr] at h; exact absurd h (by simp)
  ·rintro ⟨hX, t, rfl, ht⟩
   by_cases hex : ∃ p t', t = p :: t' ∧ p.req = i
   ·obtain ⟨p, t', rfl, hp⟩ := hex
    right
    have hr : (rq.any fun x => decide (x = (i : Int))) = true := List.any_eq_true.2 ⟨p.req, (ht p (by simp)).2, by simp [hp]⟩
    rw [if_pos hr, List.mem_flatMap]
    have hpm := (hX.mem p (by simp)).2.2
    rw [hp] at hpm
    have hpc : p ∈ plcs w l i := List.mem_filter.2 ⟨hpm, by
     have : confs w p l = false := confs_none.2 fun a ha => by
      have := hX.nc
      rw [List.pairwise_append] at this
      exact this.2.2 a ha p (by simp)
     rw [this]; rfl⟩
    obtain ⟨hv, hpr⟩ := hl.snoc hw hi (by omega) hpc
    refine ⟨p, hpc, ?_⟩
    rw [pls_iff hw (k := k) (i := i + 1) (by omega) hv fun q hq => by
      rw [List.mem_append, List.mem_singleton] at hq
      rcases hq with hq | rfl
      ·have := hi q hq; omega
      ·omega]
    refine ⟨hX, t', by simp, fun q hq => ⟨?_, (ht q (List.mem_cons_of_mem _ hq)).2⟩⟩
    have := hX.asc
    rw [List.pairwise_append, List.pairwise_cons] at this
    have := this.2.1.1 q hq
    omega
   ·left
    refine ⟨hX, t, rfl, fun p hp => ⟨?_, (ht p hp).2⟩⟩
    cases t with
    | nil => exact absurd hp (by simp)
    | cons q t' =>
     have hq := (ht q (by simp)).1
     have hqn : q.req ≠ i := fun e => hex ⟨q, t', rfl, e⟩
     rcases List.mem_cons.1 hp with rfl | hp
     ·omega
     ·have := hX.asc
      rw [List.pairwise_append, List.pairwise_cons] at this
      have := this.2.1.1 p hp
      omega
theorem befP_key {y : List P} : ∀ {a b : List P}, a.map kP = b.map kP → befP y a = befP y b := by
 induction y with
 | nil =>
  intro a b h
  cases a with
  | nil => cases b with
   | nil => rfl
   | cons _ _ => simp at h
  | cons _ _ => cases b with
   | nil => simp at h
   | cons _ _ => rfl
 | cons x r ih =>
  intro a b h
  cases a with
  | nil => cases b with
   | nil => rfl
   | cons _ _ => simp at h
  | cons u a => cases b with
   | nil => simp at h
   | cons v b =>
    rw [List.map_cons, List.map_cons, List.cons.injEq] at h
    simp only [befP]
    rw [h.1, ih h.2]
def better (w : W) (a b : List P) : Bool := decide (valP w b < valP w a) || (decide (valP w a = valP w b) && befP a b)
def bestF (w : W) (b : List P) (l : List (List P)) : List P := l.foldl (fun b x => if better w x b = true then x else b) b
theorem bestF_spec : ∀ {l : List (List P)} {b : List P}, (bestF w b l = b ∨ bestF w b l ∈ l) ∧ valP w b ≤ valP w (bestF w b l) ∧ (∀ x ∈ l, valP w x ≤ valP w (bestF w b l)) ∧
  (valP w b = valP w (bestF w b l) → befP b (bestF w b l) = false) ∧ (∀ x ∈ l, valP w x = valP w (bestF w b l) → befP x (bestF w b l) = false)
 | [], b => ⟨.inl rfl, Int.le_refl _, fun x hx => absurd hx (by simp), fun _ => befP_irrefl, fun x hx => absurd hx (by simp)⟩
 | x :: r, b => by
  have e : bestF w b (x :: r) = bestF w (if better w x b = true then x else b) r := rfl
  rw [e]
  by_cases hb : better w x b = true
  ·rw [if_pos hb]
   obtain ⟨h1, h2, h3, h4, h5⟩ := bestF_spec (l := r) (b := x)
   have hxb : valP w b ≤ valP w x ∧ (valP w b = valP w x → befP x b = true) := by
    unfold better at hb
    rw [Bool.or_eq_true, Bool.and_eq_true, decide_eq_true_eq, decide_eq_true_eq] at hb
    rcases hb with hb | ⟨hb, hb2⟩
    ·exact ⟨by omega, fun h => by omega⟩
    ·exact ⟨by omega, fun _ => hb2⟩
   refine ⟨?_, by omega, fun y hy => ?_, fun hv => ?_, fun y hy hv => ?_⟩
   ·rcases h1 with h1 | h1
    ·right; rw [h1]; simp
    ·right; exact List.mem_cons_of_mem _ h1
   ·rcases List.mem_cons.1 hy with rfl | hy
    ·exact h2
    ·exact h3 y hy
   ·have hx := h4 (by omega)
    have hbx := hxb.2 (by omega)
    cases hc : befP b (bestF w x r) with
    | false => rfl
    | true => rw [befP_trans hbx hc] at hx; exact absurd hx (by decide)
   ·rcases List.mem_cons.1 hy with rfl | hy
    ·exact h4 hv
    ·exact h5 y hy hv
  ·rw [if_neg hb]
   obtain ⟨h1, h2, h3, h4, h5⟩ := bestF_spec (l := r) (b := b)
   have hxb : valP w x ≤ valP w b ∧ (valP w x = valP w b → befP x b = false) := by
    unfold better at hb
    rw [Bool.or_eq_true, Bool.and_eq_true, decide_eq_true_eq, decide_eq_true_eq, not_or] at hb
    refine ⟨by omega, fun hv => ?_⟩
    cases hc : befP x b with
    | false => rfl
    | true => exact absurd ⟨hv, hc⟩ hb.2
   refine ⟨?_, h2, fun y hy => ?_, h4, fun y hy hv => ?_⟩
   ·rcases h1 with h1 | h1
    ·exact .inl h1
    ·right; exact List.mem_cons_of_mem _ h1
   ·rcases List.mem_cons.1 hy with rfl | hy
    ·omega
    ·exact h3 y hy
   ·rcases List.mem_cons.1 hy with rfl | hy
    ·have hx := hxb.2 (by omega)
     have hb2 := h4 (by omega)
     cases hc : befP y (bestF w b r) with
     | false => rfl
     | true =>
      cases hbf : befP (bestF w b r) b with
      | true => rw [befP_trans hc hbf] at hx; exact absurd hx (by decide)
      | false =>
       have hk := befP_total hb2 hbf
       rw [befP_key (Eq.symm hk), hx] at hc
       exact absurd hc (by decide)
    ·exact h5 y hy hv
theorem best_ref (hw : Wk w) {rq : List Int} (hrq : ∀ i : Nat, i < w.rs.l.length → (i : Int) ∈ rq) {b : List P} {r : List (List P)} (hp : pls w rq 0 w.rs.l.length [] = b :: r) : bestW w = (bestF w b r, valP w (bestF w b r), true) := by
 have hiff := fun X => pls_iff (X := X) hw (rq := rq) (k := w.rs.l.length) (i := 0) (by omega) VP.nil (fun p hp => absurd hp (by simp))
 rw [hp] at hiff
 have hmem : ∀ X, X ∈ b :: r ↔ VP w X := fun X => by
  rw [hiff X]
  constructor
  ·rintro ⟨h, _⟩; exact h
  ·intro h
   refine ⟨h, X, rfl, fun p hp => ?_⟩
   obtain ⟨h0, h1, _⟩ := h.mem p hp
   have := hrq p.req.toNat (by omega)
   rw [show ((p.req.toNat : Nat) : Int) = p.req by omega] at this
   exact ⟨by omega, this⟩
 obtain ⟨h1, h2, h3, h4, h5⟩ := bestF_spec (w := w) (l := r) (b := b)
 have hQ : VP w (bestF w b r) := (hmem _).1 (by
  rcases h1 with h | h
  ·rw [h]; simp
  ·exact List.mem_cons_of_mem _ h)
 have hall : ∀ X, VP w X → valP w X ≤ valP w (bestF w b r) := fun X hX => by
  rcases List.mem_cons.1 ((hmem X).2 hX) with rfl | h
  ·exact h2
  ·exact h3 X h
 obtain ⟨R, hR, hRv⟩ := max_ex hw
 have hv : valP w (bestF w b r) = maxV w := by
  have := hall R hR
  have := hQ.le_max hw
  omega
 rw [best_first hw hQ hv fun X hX hXv => by
  rcases List.mem_cons.1 ((hmem X).2 hX) with rfl | h
  ·exact h4 (by omega)
  ·exact h5 X h (by omega), hv]
end
end Go.Ax.Sx.Sc

namespace Go.Ax.Sx.Sc
open Go.Ax
set_option linter.unusedSimpArgs false
set_option linter.unusedVariables false
set_option maxRecDepth 100000
section
variable {s : Sig} {w : W}
theorem r_SmallErr (hs : Ok s) (hw : w.Ok) (hf : w.Few) : callL AP (.fn 7) [w.v] s = some (I (smallE w), s) := by
 have hwe : ∀ r, callL AP (.fn 22) [w.v] (s.push r) = some (I (weekE w).2.2, s.push r) := fun r => r_WeekErr (hs.push r) hw hf
 simp only [W.v, rowW, Sl.v] at hwe
 unfold smallE
 by_cases h0 : (weekE w).2.2 = 0
 ·rw [if_pos h0]
  have hwk : Wk w := ⟨hw, hf, weekE_ok h0⟩
  have hrl := hwk.v.rl
  have h6 : decide ((6 : Int) < (w.rs.l.length : Int)) = !decide (w.rs.l.length ≤ 6) := dec_not (by omega)
  have key : ∀ (k : Nat) ρ m, k ≤ w.rs.l.length → (ρ 1 = .ptr s.acts.length 0 0 ∧ ρ 4 = I k ∧ ∃ bx, m = s.push ⟨rowW w :: bx, []⟩) →
    go AP f_r_SmallErr (.c (.loop b_r_SmallErr_l0) :: k_r_SmallErr_0) ⟨ρ, m⟩ = some (I (cond ((w.rs.l.drop k).any fun r => decide (8 < r.hi - r.lo + 2 - r.len)) 8 0), s) := by
   refine loop_up _ _ _ ?_ ?_
   ·rintro k ρ m hk ⟨g1, g4, bx, rfl⟩ ih
    obtain ⟨q, hq⟩ := get_some hk
    have hix := Sl.ix (f := rowR) hw.rs hq
    have hqv := hwk.v.r q (List.mem_of_getElem? hq)
    have a1 := hqv.lo0
    have a2 := hqv.hin
    have a3 := hqv.lohi
    have a4 := hqv.len1
    have a5 := hqv.lenhi
    have a6 := hwk.v.n2
    have w1 : IntKind.i64.wrap (IntKind.i64.wrap (IntKind.i64.wrap (IntKind.i64.wrap (q.hi - q.lo) + 1) - q.len) + 1) = q.hi - q.lo + 2 - q.len := by
     rw [wrap_id (x := q.hi - q.lo) (by omega) (by omega), wrap_id (x := q.hi - q.lo + 1) (by omega) (by omega), wrap_id (x := q.hi - q.lo + 1 - q.len) (by omega) (by omega), wrap_id (by omega) (by omega)]; omega
    simp only [rowR, Sl.v] at hix
    rw [drop_get hq, List.any_cons]
    cases hd : decide (8 < q.hi - q.lo + 2 - q.len) with
    | true => simp (maxSteps := 1000000) only [go_sem, b_r_SmallErr_l0, g1, g4, hs, lt_dec hk, hix, w1, hd, Bool.true_or, Nat.reduceEqDiff, Nat.reduceAdd, ↓reduceIte]
    | false =>
     simp (maxSteps := 1000000) only [go_sem, b_r_SmallErr_l0, g1, g4, hs, lt_dec hk, hix, w1, hd, wrap_succ hk (show (w.rs.l.length : Int) < _ by omega), Nat.reduceEqDiff, Nat.reduceAdd, ↓reduceIte]
     rw [Bool.false_or]
     refine ih _ _ ?_
     exact ⟨g1, rfl, _, rfl⟩
   ·rintro ρ m ⟨g1, g4, bx, rfl⟩
    simp (maxSteps := 1000000) only [go_sem, b_r_SmallErr_l0, b_r_SmallErr_r0, g1, g4, ge_dec, Nat.reduceEqDiff, Nat.reduceAdd, ↓reduceIte]
    rw [List.drop_length]; rfl
  rw [callL_go (show AP 7 = some c_r_SmallErr from rfl) rfl]
  unfold smallB
  cases hd : decide (w.rs.l.length ≤ 6) with
  | false => simp (maxSteps := 1000000) only [go_sem, b_r_SmallErr, hwe, h0, h6, hd, ne_eq, not_true, Bool.not_false, Bool.false_and, Nat.reduceEqDiff, Nat.reduceAdd, ↓reduceIte]
  | true =>
   simp (maxSteps := 1000000) only [go_sem, b_r_SmallErr, hwe, h0, h6, hd, ne_eq, not_true, Bool.not_true, Nat.reduceEqDiff, Nat.reduceAdd, ↓reduceIte]
   refine Eq.trans (key 0 _ _ (Nat.zero_le _) ?_) ?_
   ·exact ⟨rfl, rfl, [], rfl⟩
   ·rw [List.drop_zero]
    cases (w.rs.l.any fun r => decide (8 < r.hi - r.lo + 2 - r.len)) <;> rfl
 ·rw [if_neg h0]
  rw [callL_go (show AP 7 = some c_r_SmallErr from rfl) rfl]
  simp (maxSteps := 1000000) only [go_sem, b_r_SmallErr, hwe, h0, ne_eq, not_false_iff, Nat.reduceEqDiff, Nat.reduceAdd, ↓reduceIte]
end
end Go.Ax.Sx.Sc

namespace Go.Ax.Sx.Sc
open Go.Ax
set_option linter.unusedSimpArgs false
set_option linter.unusedVariables false
set_option maxRecDepth 100000
section
variable {s : Sig} {w : W}
theorem cmp_lt {x y : P} : decide (cmpP x y < 0) = lexB (kP x) (kP y) := by
 unfold cmpP
 cases lexB (kP x) (kP y) with
 | true => rfl
 | false => cases lexB (kP y) (kP x) <;> rfl
theorem cmp_eq {x y : P} : cmpP x y = 0 ↔ kP x = kP y := by
 constructor
 ·intro h
  unfold cmpP at h
  cases h1 : lexB (kP x) (kP y) with
  | true => rw [h1, if_pos rfl] at h; exact absurd h (by decide)
  | false =>
   cases h2 : lexB (kP y) (kP x) with
   | true => rw [h1, h2] at h; exact absurd h (by decide)
   | false => exact lexB_total h1 h2
 ·exact cmpP_key
theorem r_Before {a b : List P} {o1 o2 : Own} {e1 e2 : Nat} (hs : Ok s) (h1 : a = [] ∨ e1 = 3) (h2 : b = [] ∨ e2 = 3) (l1 : SmOk a) (l2 : SmOk b) :
  callL AP (.fn 15) [.slice o1 e1 (a.map rowP), .slice o2 e2 (b.map rowP)] s = some (B (befP a b), s) := by
 have hla := l1.len
 have hlb := l2.len
 have key : ∀ (k : Nat) ρ m, k ≤ min a.length b.length → (ρ 0 = .slice o1 e1 (a.map rowP) ∧ ρ 1 = .slice o2 e2 (b.map rowP) ∧ ρ 5 = I k ∧ m = s.push ⟨[], []⟩) →
   go AP f_r_Before (.c (.loop b_r_Before_l0) :: k_r_Before_0) ⟨ρ, m⟩ = some (B (befP (a.drop k) (b.drop k)), s) := by
  refine loop_up (min a.length b.length) _ _ ?_ ?_
  ·rintro k ρ m hk ⟨g0, g1, g5, rfl⟩ ih
   obtain ⟨x, hx⟩ := get_some (l := a) (k := k) (by omega)
   obtain ⟨y, hy⟩ := get_some (l := b) (k := k) (by omega)
   have he1 : e1 = 3 := by rcases h1 with h | h; (rw [h] at hx; simp at hx); exact h
   have he2 : e2 = 3 := by rcases h2 with h | h; (rw [h] at hy; simp at hy); exact h
   subst he1; subst he2
   have ha := ix_map (f := rowP) (o := o1) (es := 3) hx
   have hb := ix_map (f := rowP) (o := o2) (es := 3) hy
   have hxo := l1.ok x (List.mem_of_getElem? hx)
   have hyo := l2.ok y (List.mem_of_getElem? hy)
   have hcm : ∀ r, callL AP (.fn 37) [.agg (rowP x), .agg (rowP y)] (s.push r) = some (I (cmpP x y), s.push r) := fun r => r_compare (hs.push r) hxo.1 hyo.1 hxo.2 hyo.2
   have d1 : decide ((k : Int) < (a.length : Int)) = true := by simp; omega
   have d2 : decide ((k : Int) < (b.length : Int)) = true := by simp; omega
   have hwr : IntKind.i64.wrap ((k : Int) + 1) = ((k + 1 : Nat) : Int) := by rw [wrap_id (by omega) (by omega)]; omega
   rw [drop_get hx, drop_get hy, befP]
   simp only [rowP, Sl.v] at hcm ha hb
   by_cases hc : cmpP x y = 0
   ·have hd : decide (¬ cmpP x y = 0) = false := by simp [hc]
    rw [if_pos (cmp_eq.1 hc)]
    simp (maxSteps := 1000000) only [go_sem, b_r_Before_l0, g0, g1, g5, d1, d2, ha, hb, hcm, hd, ne_eq, hwr, Nat.reduceEqDiff, reduceCtorEq, ↓reduceIte]
    refine ih _ _ ?_
    exact ⟨g0, g1, rfl, rfl⟩
   ·have hd : decide (¬ cmpP x y = 0) = true := by simp [hc]
    rw [if_neg (fun e => hc (cmp_eq.2 e)), ← cmp_lt]
    simp (maxSteps := 1000000) only [go_sem, b_r_Before_l0, g0, g1, g5, d1, d2, ha, hb, hcm, hd, ne_eq, Nat.reduceEqDiff, reduceCtorEq, ↓reduceIte]
  ·rintro ρ m ⟨g0, g1, g5, rfl⟩
   by_cases hab : a.length ≤ b.length
   ·have hmin : min a.length b.length = a.length := by omega
    rw [hmin] at g5 ⊢
    have d1 : decide ((a.length : Int) < (a.length : Int)) = false := by simp
    rw [List.drop_length]
    simp (maxSteps := 1000000) only [go_sem, b_r_Before_l0, b_r_Before_r0, g0, g1, g5, d1, Nat.reduceEqDiff, reduceCtorEq, ↓reduceIte]
    by_cases hlt : a.length < b.length
    ·obtain ⟨y, hy⟩ := get_some hlt
     rw [drop_get hy]
     simp only [befP]
     have : decide ((a.length : Int) < (b.length : Int)) = true := by simp; omega
     rw [this]
    ·rw [List.drop_of_length_le (by omega)]
     simp only [befP]
     have : decide ((a.length : Int) < (b.length : Int)) = false := by simp; omega
     rw [this]
   ·have hmin : min a.length b.length = b.length := by omega
    rw [hmin] at g5 ⊢
    have d1 : decide ((b.length : Int) < (a.length : Int)) = true := by simp; omega
    have d2 : decide ((b.length : Int) < (b.length : Int)) = false := by simp
    obtain ⟨x, hx⟩ := get_some (l := a) (k := b.length) (by omega)
    have d3 : decide ((a.length : Int) < (b.length : Int)) = false := by simp; omega
    simp (maxSteps := 1000000) only [go_sem, b_r_Before_l0, b_r_Before_r0, g0, g1, g5, d1, d2, d3, Nat.reduceEqDiff, reduceCtorEq, ↓reduceIte]
    rw [drop_get hx, List.drop_length]; rfl
 rw [callL_go (show AP 15 = some c_r_Before from rfl) rfl]
 simp (maxSteps := 1000000) only [go_sem, b_r_Before]
 exact key 0 _ _ (Nat.zero_le _) ⟨rfl, rfl, rfl, rfl⟩
end
end Go.Ax.Sx.Sc

namespace Go.Ax.Sx.Sc
open Go.Ax
set_option linter.unusedSimpArgs false
set_option linter.unusedVariables false
set_option maxRecDepth 100000
section
variable {s : Sig} {w : W}
def workF (w : W) (most : Int) : Nat → Nat → Int → Int
 | _, 0, n => n
 | i, k + 1, n => if n ≤ most then workF w most (i + 1) k (n * (1 + (poss w (i : Int)).length)) else n
theorem r_Work (hs : Ok s) (hw : Wk w) : callL AP (.fn 21) [w.v, I 2000] s = some (I (workF w 2000 0 w.rs.l.length 1), s) := by
 have hrl := hw.v.rl
 have key : ∀ (k : Nat) (i : Nat) (n : Int) ρ m, i + k = w.rs.l.length → (ρ 1 = I 2000 ∧ ρ 2 = .ptr s.acts.length 0 0 ∧ ρ 5 = I n ∧ ρ 6 = I i ∧ 1 ≤ n ∧ m = s.push ⟨[rowW w], []⟩) →
   go AP f_r_Work (.c (.loop b_r_Work_l0) :: k_r_Work_0) ⟨ρ, m⟩ = some (I (workF w 2000 i k n), s) := by
  intro k
  induction k with
  | zero =>
   rintro i n ρ m hk ⟨g1, g2, g5, g6, hn, rfl⟩
   have hi : i = w.rs.l.length := by omega
   subst hi
   rw [go_loop]
   simp (maxSteps := 1000000) only [go_sem, b_r_Work_l0, b_r_Work_r0, g2, g5, g6, ge_dec, Nat.reduceEqDiff, Nat.reduceAdd, ↓reduceIte]
   rfl
  | succ k ih =>
   rintro i n ρ m hk ⟨g1, g2, g5, g6, hn, rfl⟩
   have hcnt := poss_count hw (i := (i : Int)) (by omega) (by omega)
   have hpo : ∀ r, callL AP (.fn 42) [w.v, I i] (s.push r) = some (accV 3 (((poss w i).map (reS (w.rq i).need.toNat)).map rowP), s.push r) := fun r => r_Possible (hs.push r) hw (by omega) (by omega)
   have hln : lenOp false (accV 3 (((poss w i).map (reS (w.rq i).need.toNat)).map rowP)) = some (I (poss w i).length) := by rw [len_acc, List.length_map, List.length_map]
   simp only [W.v, rowW, Sl.v] at hpo
   rw [go_loop]
   simp only [workF]
   by_cases hle : n ≤ 2000
   ·rw [if_pos hle]
    have hb : n * (1 + ((poss w i).length : Int)) ≤ 2000 * 13001 := by
     refine Int.le_trans (Int.mul_le_mul_of_nonneg_right hle (by omega)) ?_
     omega
    have hb0 : 1 ≤ n * (1 + ((poss w i).length : Int)) := by
     have := Int.mul_pos (show (0 : Int) < n by omega) (show (0 : Int) < 1 + ((poss w i).length : Int) by omega)
     omega
    have w1 : IntKind.i64.wrap (1 + ((poss w i).length : Int)) = 1 + ((poss w i).length : Int) := wrap_id (by omega) (by omega)
    have w2 : IntKind.i64.wrap (n * (1 + ((poss w i).length : Int))) = n * (1 + ((poss w i).length : Int)) := wrap_id (by omega) (by omega)
    have d1 : decide ((i : Int) < (w.rs.l.length : Int)) = true := by simp; omega
    have d2 : decide (n ≤ 2000) = true := by simpa using hle
    have w3 : IntKind.i64.wrap ((i : Int) + 1) = ((i + 1 : Nat) : Int) := by rw [wrap_id (by omega) (by omega)]; omega
    simp (maxSteps := 1000000) only [go_sem, b_r_Work_l0, g1, g2, g5, g6, d1, d2, hpo, hln, w1, w2, w3, Nat.reduceEqDiff, Nat.reduceAdd, ↓reduceIte]
    refine ih (i + 1) _ _ _ (by omega) ?_
    exact ⟨g1, g2, rfl, rfl, hb0, rfl⟩
   ·rw [if_neg hle]
    have d1 : decide ((i : Int) < (w.rs.l.length : Int)) = true := by simp; omega
    have d2 : decide (n ≤ 2000) = false := by simp; omega
    simp (maxSteps := 1000000) only [go_sem, b_r_Work_l0, b_r_Work_r0, g1, g2, g5, g6, d1, d2, Nat.reduceEqDiff, Nat.reduceAdd, ↓reduceIte]
 rw [callL_go (show AP 21 = some c_r_Work from rfl) rfl]
 simp (maxSteps := 1000000) only [go_sem, b_r_Work, Nat.reduceAdd]
 refine key w.rs.l.length 0 1 _ _ (by omega) ?_
 exact ⟨rfl, rfl, rfl, rfl, by omega, rfl⟩
end
end Go.Ax.Sx.Sc

namespace Go.Ax.Sx.Sc
open Go.Ax
set_option linter.unusedSimpArgs false
set_option linter.unusedVariables false
set_option maxRecDepth 100000
section
variable {s : Sig} {w : W}
def lightB (w : W) : Bool := fewB w && (decide (¬ smallE w = 0) || decide (workF w 2000 0 w.rs.l.length 1 ≤ 2000))
theorem smallE_ok {w : W} (h : smallE w = 0) : (weekE w).2.2 = 0 := by
 unfold smallE at h
 by_cases h0 : (weekE w).2.2 = 0
 ·exact h0
 ·rw [if_neg h0] at h; exact h
theorem l_Light (hs : Ok s) (hw : w.Ok) (hb : w.Big) : callL AP (.fn 5) [w.v] s = some (B (lightB w), s) := by
 have hfe : ∀ r, callL AP (.fn 20) [w.v] (s.push r) = some (B (fewB w), s.push r) := fun r => l_Few (hs.push r) hw hb
 simp only [W.v, rowW, Sl.v] at hfe
 unfold lightB
 cases hf : fewB w with
 | false =>
  rw [callL_go (show AP 5 = some c_l_Light from rfl) rfl]
  simp (maxSteps := 1000000) only [go_sem, b_l_Light, hfe, hf, Bool.false_and, Nat.reduceEqDiff, Nat.reduceAdd, ↓reduceIte]
 | true =>
  have hF := fewB_iff hf
  have hse : ∀ r, callL AP (.fn 7) [w.v] (s.push r) = some (I (smallE w), s.push r) := fun r => r_SmallErr (hs.push r) hw hF
  simp only [W.v, rowW, Sl.v] at hse
  by_cases h0 : smallE w = 0
  ·have hwk : Wk w := ⟨hw, hF, weekE_ok (smallE_ok h0)⟩
   have hwo : ∀ r, callL AP (.fn 21) [w.v, I 2000] (s.push r) = some (I (workF w 2000 0 w.rs.l.length 1), s.push r) := fun r => r_Work (hs.push r) hwk
   simp only [W.v, rowW, Sl.v] at hwo
   rw [h0] at hse
   rw [callL_go (show AP 5 = some c_l_Light from rfl) rfl]
   simp (maxSteps := 1000000) only [go_sem, b_l_Light, hfe, hf, hse, hwo, h0, ne_eq, not_true, Bool.true_and, Bool.false_or, decide_false, Nat.reduceEqDiff, Nat.reduceAdd, ↓reduceIte]
  ·have hd : decide (¬ smallE w = 0) = true := by simp [h0]
   rw [callL_go (show AP 5 = some c_l_Light from rfl) rfl]
   simp (maxSteps := 1000000) only [go_sem, b_l_Light, hfe, hf, hse, hd, ne_eq, Bool.true_and, Bool.true_or, Nat.reduceEqDiff, Nat.reduceAdd, ↓reduceIte]
end
end Go.Ax.Sx.Sc

namespace Go.Ax.Sx.Sc
open Go.Ax
set_option linter.unusedSimpArgs false
set_option linter.unusedVariables false
set_option maxRecDepth 100000
section
variable {s : Sig} {w : W}
def AG (d es : Nat) (xs : List (List AV)) (x : AV) (tk : List (Option Nat)) : Prop :=
 x = .slice .full es xs ∨ ∃ g, x = .slice (.tok d g) es xs ∧ tk[g]? = some (some xs.length)
theorem AG.sl {d es : Nat} {xs : List (List AV)} {x : AV} {tk : List (Option Nat)} (h : AG d es xs x tk) : ∃ o, x = .slice o es xs := by
 rcases h with h | ⟨g, h, _⟩
 ·exact ⟨_, h⟩
 ·exact ⟨_, h⟩
theorem AG.ext {d es : Nat} {xs : List (List AV)} {x : AV} {tk tk' : List (Option Nat)} (h : AG d es xs x tk) (hx : ∀ (g : Nat) (n : Option Nat), tk[g]? = some n → tk'[g]? = some n) : AG d es xs x tk' := by
 rcases h with h | ⟨g, h, hg⟩
 ·exact .inl h
 ·exact .inr ⟨g, h, hx _ _ hg⟩
theorem AG.append {es : Nat} {xs : List (List AV)} {x : AV} {tk : List (Option Nat)} (h : AG s.acts.length es xs x tk) (hs : Ok s) (o : Own) {ys : List (List AV)} (hy : ys ≠ []) (hl : xs.length + ys.length ≤ 4294967296) :
  ∃ x' tk', (∀ bx, appendOp (s.push ⟨bx, tk⟩) es x (.slice o es ys) = some (x', s.push ⟨bx, tk'⟩)) ∧ AG s.acts.length es (xs ++ ys) x' tk' := by
 have hy' : ys.isEmpty = false := by cases ys <;> simp_all
 rcases h with rfl | ⟨g, rfl, hg⟩
 ·refine ⟨.slice (.tok s.acts.length tk.length) es (xs ++ ys), tk ++ [some (xs.length + ys.length)], fun bx => ?_, .inr ⟨tk.length, rfl, by simp⟩⟩
  simp [appendOp, hy', Own.isNil, most, hl, ntok_push, addTok_push, cur_push]
 ·refine ⟨.slice (.tok s.acts.length g) es (xs ++ ys), tk.set g (some (xs.length + ys.length)), fun bx => ?_, .inr ⟨g, rfl, ?_⟩⟩
  ·simp [appendOp, hy', most, hl, tok_push, hg, ro_push, hs.ro, setTok_push]
  ·rw [List.getElem?_set_self (List.getElem?_eq_some_iff.1 hg).1]; simp
end
end Go.Ax.Sx.Sc

namespace Go.Ax.Sx.Sc
open Go.Ax
set_option linter.unusedSimpArgs false
set_option linter.unusedVariables false
set_option maxRecDepth 100000
section
variable {s : Sig} {w : W}
theorem pls_ne {rq : List Int} : ∀ {k i : Nat} {l : List P}, pls w rq i k l ≠ []
 | 0, _, _ => by simp [pls]
 | k + 1, i, l => by
  simp only [pls]
  intro h
  exact pls_ne (List.append_eq_nil_iff.1 h).1
theorem confs_cP {p : P} : ∀ {l : List P}, confs w p (l.map cP) = confs w p l
 | [] => rfl
 | x :: r => by
  have h := confs_cP (p := p) (l := r)
  unfold confs at *
  rw [List.map_cons, List.any_cons, List.any_cons, h]; rfl
theorem plcs_cP {l : List P} {i : Int} : plcs w (l.map cP) i = plcs w l i := by
 unfold plcs
 simp only [confs_cP]
theorem own_full {Q : Sig} {R : Rec} {es : Nat} {xs : List (List AV)} : ownResult (Q.push R) (.slice .full es xs) = some (.slice .full es xs, Q) := by
 show some (_, (Q.push R).pop) = _
 rw [pop_push]
theorem AG.own {Q : Sig} {bx : List (List AV)} {tk : List (Option Nat)} {B : List (List AV)} {es : Nat} {xs : List (List AV)} {x : AV} {tks : List (Option Nat)} (hQ : Ok Q) (h : AG (Q.acts.length + 1) es xs x tks) :
  ∃ x' tk', ownResult ((Q.push ⟨bx, tk⟩).push ⟨B, tks⟩) x = some (x', Q.push ⟨bx, tk'⟩) ∧ AG Q.acts.length es xs x' tk' ∧ (∀ (g : Nat) (n : Option Nat), tk[g]? = some n → tk'[g]? = some n) := by
 rcases h with rfl | ⟨g, rfl, hg⟩
 ·exact ⟨_, _, own_full, .inl rfl, fun _ _ h => h⟩
 ·refine ⟨_, _, own_push hQ (R := ⟨bx, tk⟩) (r0 := ⟨B, tks⟩) hg, .inr ⟨tk.length, rfl, by simp⟩, fun g n h => ?_⟩
  rw [List.getElem?_append_left (List.getElem?_eq_some_iff.1 h).1]; exact h
end
end Go.Ax.Sx.Sc

namespace Go.Ax.Sx.Sc
open Go.Ax
set_option linter.unusedSimpArgs false
set_option linter.unusedVariables false
set_option maxRecDepth 100000
section
variable {s : Sig} {w : W}
theorem valP_cP : ∀ {l : List P}, valP w (l.map cP) = valP w l
 | [] => rfl
 | p :: r => by
  simp only [List.map_cons, valP, valP_cP (l := r)]; rfl
theorem befP_cP : ∀ {a b : List P}, befP (a.map cP) (b.map cP) = befP a b
 | [], [] => rfl
 | [], _ :: _ => rfl
 | _ :: _, [] => rfl
 | x :: r, y :: t => by
  have h := befP_cP (a := r) (b := t)
  simp only [List.map_cons, befP, h]; rfl
abbrev rqs (n : Nat) : List Int := (List.range n).map fun i : Nat => (i : Int)
theorem Wk.c (hw : Wk w) (h0 : (weekE w).2.2 = 0) : Wk (cW w) := ⟨cW_Ok, cW_Few hw.few, weekE_ok (by rw [weekE_c]; exact h0)⟩
theorem pls_c (hw : Wk w) {rq : List Int} : ∀ {k i : Nat} {l : List P}, i + k = w.rs.l.length → (∀ x ∈ l, 0 ≤ x.req ∧ x.req < w.rs.l.length) → pls (cW w) rq i k l = pls w rq i k l
 | 0, _, _, _, _ => rfl
 | k + 1, i, l, hk, hl => by
  simp only [pls]
  rw [pls_c hw (k := k) (i := i + 1) (by omega) hl, ← plcs_cP (w := cW w), plcs_c hw (by omega) (by omega) hl]
  congr 1
  split
  ·have : ∀ L : List P, (∀ p ∈ L, p ∈ plcs w l (i : Int)) → (L.flatMap fun p => pls (cW w) rq (i + 1) k (l ++ [p])) = L.flatMap fun p => pls w rq (i + 1) k (l ++ [p]) := by
    intro L
    induction L with
    | nil => intro _; rfl
    | cons a L ih =>
     intro h
     have ha := h a (by simp)
     obtain ⟨hpin, _⟩ := poss_in hw (show (0 : Int) ≤ (i : Int) by omega) (by omega) (List.mem_filter.1 ha).1
     rw [List.flatMap_cons, List.flatMap_cons, ih fun p hp => h p (List.mem_cons_of_mem _ hp), pls_c hw (k := k) (i := i + 1) (by omega) fun x hx => by
      rw [List.mem_append, List.mem_singleton] at hx
      rcases hx with hx | rfl
      ·exact hl x hx
      ·exact ⟨hpin.r0, hpin.r1⟩]
   exact this _ fun _ h => h
  ·rfl
theorem better_c {a b : List P} (ha : ∀ x ∈ a, 0 ≤ x.req ∧ x.req < w.rs.l.length) (hb : ∀ x ∈ b, 0 ≤ x.req ∧ x.req < w.rs.l.length) : better (cW w) a b = better w a b := by
 unfold better
 rw [← valP_cP (w := cW w) (l := a), valP_c ha, ← valP_cP (w := cW w) (l := b), valP_c hb]
theorem bestF_c : ∀ {l : List (List P)} {b : List P}, (∀ x ∈ b, 0 ≤ x.req ∧ x.req < w.rs.l.length) → (∀ a ∈ l, ∀ x ∈ a, 0 ≤ x.req ∧ x.req < w.rs.l.length) → bestF (cW w) b l = bestF w b l
 | [], _, _, _ => rfl
 | x :: r, b, hb, hl => by
  have hx := hl x (by simp)
  show bestF (cW w) (if better (cW w) x b = true then x else b) r = bestF w (if better w x b = true then x else b) r
  rw [better_c hx hb]
  refine bestF_c ?_ fun a ha => hl a (List.mem_cons_of_mem _ ha)
  split
  ·exact hx
  ·exact hb
theorem best_c (hw : Wk w) (h0 : (weekE w).2.2 = 0) : (bestW (cW w)).1 = (bestW w).1 ∧ (bestW (cW w)).2.1 = (bestW w).2.1 := by
 have hrq : ∀ i : Nat, i < w.rs.l.length → (i : Int) ∈ rqs w.rs.l.length := fun i hi => List.mem_map.2 ⟨i, List.mem_range.2 hi, rfl⟩
 have hpc := pls_c hw (rq := rqs w.rs.l.length) (k := w.rs.l.length) (i := 0) (l := []) (by omega) (fun x hx => absurd hx (by simp))
 cases hp : pls w (rqs w.rs.l.length) 0 w.rs.l.length [] with
 | nil => exact absurd hp pls_ne
 | cons b r =>
  have hin : ∀ X ∈ b :: r, ∀ x ∈ X, 0 ≤ x.req ∧ x.req < w.rs.l.length := fun X hX x hx => by
   rw [← hp, pls_iff hw (by omega) VP.nil (fun p hp => absurd hp (by simp))] at hX
   have := hX.1.mem x hx
   exact ⟨this.1, this.2.1⟩
  have h1 := best_ref hw hrq hp
  have h2 := best_ref (w := cW w) (hw.c h0) (rq := rqs w.rs.l.length) (fun i hi => hrq i (by rw [cW_len] at hi; exact hi)) (b := b) (r := r) (by rw [cW_len, hpc, hp])
  have hf := bestF_c (w := w) (b := b) (l := r) (hin b (by simp)) fun a ha => hin a (List.mem_cons_of_mem _ ha)
  rw [h1, h2, hf]
  refine ⟨rfl, ?_⟩
  show valP (cW w) (bestF w b r) = valP w (bestF w b r)
  obtain ⟨hm, _⟩ := bestF_spec (w := w) (l := r) (b := b)
  rw [← valP_cP (w := cW w) (l := bestF w b r), valP_c]
  rcases hm with hm | hm
  ·rw [hm]; exact hin b (by simp)
  ·exact hin _ (List.mem_cons_of_mem _ hm)
theorem smallE_c : smallE (cW w) = smallE w := by
 unfold smallE
 rw [weekE_c]
 have : smallB (cW w) = smallB w := by
  unfold smallB
  rw [cW_len, cW_rs, List.any_map]; rfl
 rw [this]
end
end Go.Ax.Sx.Sc

namespace Go.Ax.Sx.Sc
open Go.Ax
set_option linter.unusedSimpArgs false
set_option linter.unusedVariables false
set_option maxRecDepth 100000
section
variable {s : Sig} {w : W}
end
end Go.Ax.Sx.Sc

namespace Go.Ax.Sx.Sc
open Go.Ax
set_option linter.unusedSimpArgs false
set_option linter.unusedVariables false
set_option maxRecDepth 100000
section
variable {s : Sig} {w : W}
end
end Go.Ax.Sx.Sc

namespace Go.Ax.Sx.Sc
open Go.Ax
set_option linter.unusedSimpArgs false
set_option linter.unusedVariables false
set_option maxRecDepth 100000
section
variable {s : Sig} {w : W}
theorem Ends.find {α ι : Type} {I : List α → ι → Prop} {st : α → Bool} {O : List α → α → ι → Prop} {i : ι} : ∀ {xs done : List α}, Ends I (fun _ x => st x) O done xs false i → ∃ x dn, xs.find? st = some x ∧ O dn x i
 | [], _, h => absurd h.1 (by decide)
 | x :: r, done, h => by
  simp only [Ends] at h
  cases hs : st x with
  | true => rw [if_pos hs] at h; exact ⟨x, done, by rw [List.find?_cons, hs], h.2⟩
  | false =>
   rw [if_neg (by rw [hs]; decide)] at h
   rw [List.find?_cons, hs]
   exact Ends.find h
end
end Go.Ax.Sx.Sc

namespace Go.Ax.Sx.Sc
open Go.Ax
set_option linter.unusedSimpArgs false
set_option linter.unusedVariables false
set_option maxRecDepth 100000
section
variable {s : Sig} {w : W}
end
end Go.Ax.Sx.Sc

namespace Go.Ax.Sx.Sc
open Go.Ax
set_option linter.unusedSimpArgs false
set_option linter.unusedVariables false
set_option maxRecDepth 100000
section
variable {s : Sig} {w : W}
theorem rqs_all {n : Nat} : ∀ i : Nat, i < n → (i : Int) ∈ rqs n := fun i hi => List.mem_map.2 ⟨i, List.mem_range.2 hi, rfl⟩
theorem best_is (hw : Wk w) : VP w (bestW w).1 ∧ valP w (bestW w).1 = (bestW w).2.1 ∧ ∀ R, VP w R → valP w R ≤ (bestW w).2.1 ∧ (valP w R = (bestW w).2.1 → befP R (bestW w).1 = false) := by
 have hiff := fun X => pls_iff (X := X) hw (rq := rqs w.rs.l.length) (k := w.rs.l.length) (i := 0) (by omega) VP.nil (fun p hp => absurd hp (by simp))
 cases hp : pls w (rqs w.rs.l.length) 0 w.rs.l.length [] with
 | nil => exact absurd hp pls_ne
 | cons b r =>
  rw [hp] at hiff
  have hmem : ∀ X, X ∈ b :: r ↔ VP w X := fun X => by
   rw [hiff X]
   constructor
   ·rintro ⟨h, _⟩; exact h
   ·intro h
    refine ⟨h, X, rfl, fun p hp => ?_⟩
    obtain ⟨h0, h1, _⟩ := h.mem p hp
    have := rqs_all (n := w.rs.l.length) p.req.toNat (by omega)
    rw [show ((p.req.toNat : Nat) : Int) = p.req by omega] at this
    exact ⟨by omega, this⟩
  have hb := best_ref hw rqs_all hp
  obtain ⟨h1, h2, h3, h4, h5⟩ := bestF_spec (w := w) (l := r) (b := b)
  rw [hb]
  refine ⟨(hmem _).1 (by
   rcases h1 with h | h
   ·rw [h]; simp
   ·exact List.mem_cons_of_mem _ h), rfl, fun R hR => ?_⟩
  rcases List.mem_cons.1 ((hmem R).2 hR) with rfl | h
  ·exact ⟨h2, h4⟩
  ·exact ⟨h3 R h, h5 R h⟩
theorem lastR_mem {l : List P} : lastR l = -1 ∨ ∃ p ∈ l, lastR l = p.req := by
 unfold lastR
 cases h : l.getLast? with
 | none => exact .inl rfl
 | some p => exact .inr ⟨p, List.mem_of_getLast? h, rfl⟩
theorem VP.chk (hw : Wk w) {R : List P} (h : VP w R) : chkE w R = (0, 0) ∧ PlOk R := by
 have hz : zs w [] R := zs_ix fun j x hj => by
  rw [List.nil_append]
  obtain ⟨a, b, hab⟩ : ∃ a b, R = a ++ x :: b ∧ a = R.take j := ⟨R.take j, R.drop (j + 1), by rw [← drop_get hj, List.take_append_drop], rfl⟩
  rw [← hab.2]
  have hR := hab.1
  have hxm : x ∈ R := List.mem_of_getElem? hj
  obtain ⟨h0, h1, hx⟩ := h.mem x hxm
  have hasc := h.asc
  have hnc := h.nc
  rw [hR, List.pairwise_append] at hasc hnc
  refine passE_poss hw h0 h1 hx ?_ ?_
  ·rcases lastR_mem (l := a) with e | ⟨p, hp, e⟩
   ·rw [e]; omega
   ·rw [e]; exact hasc.2.2 p hp x (by simp)
  ·exact confs_none.2 fun p hp => hnc.2.2 p hp x (by simp)
 refine ⟨chk_zs hz, by have := zs_max hw hz; omega, fun p hp => ?_⟩
 obtain ⟨h0, h1, hx⟩ := h.mem p hp
 obtain ⟨hpin, _, _, _, _, _, hsub, _⟩ := poss_in hw h0 h1 hx
 have hq := hw.few.an _ (W.rq_mem h0 h1)
 have := hsub.length_le
 exact ⟨hpin.ok, by omega⟩
theorem grps_all : ∀ {l g : List Int}, g.Sublist l → g ∈ grps g.length l
 | _, _, .slnil => by simp [grps]
 | _, _, .cons (l₁ := g) (l₂ := l) a h => by
  have ih := grps_all h
  cases g with
  | nil => simp [grps]
  | cons b g => simp only [List.length_cons, grps, List.mem_append]; exact .inr ih
 | _, _, .cons_cons (l₁ := g) (l₂ := l) a h => by
  have ih := grps_all h
  simp only [List.length_cons, grps, List.mem_append, List.mem_map]
  exact .inl ⟨g, ih, rfl⟩
end
end Go.Ax.Sx.Sc

namespace Go.Ax.Sx.Sc
open Go.Ax
set_option linter.unusedSimpArgs false
set_option linter.unusedVariables false
set_option maxRecDepth 100000
section
variable {s : Sig} {w : W}
end
end Go.Ax.Sx.Sc

namespace Go.Ax.Sx.Sc
open Go.Ax
set_option linter.unusedSimpArgs false
set_option linter.unusedVariables false
set_option maxRecDepth 100000
theorem appm_nil {s : Sig} {bs : List (List AV)} {tk : List (Option Nat)} {es : Nat} {o : Own} {row : List AV} : appendmOp (s.push ⟨bs, tk⟩) es (.slice .nilS 0 []) (.slice o es [row]) = some (.rsl s.acts.length bs.length 0 es 1 0, s.push ⟨bs ++ [row], tk⟩) := by
 simp [appendmOp, Own.isNil, most, cur_push, nbox_push, newBox_push]
theorem appm_grow {s : Sig} {bs : List (List AV)} {tk : List (Option Nat)} {es n b : Nat} {o : Own} {row r2 : List AV} (hb : bs[b]? = some row) (hl : row.length = n * es) (hn : 0 < n) (hm : n + 1 ≤ 4294967296) :
  appendmOp (s.push ⟨bs, tk⟩) es (.rsl s.acts.length b 0 es n 0) (.slice o es [r2]) = some (.rsl s.acts.length bs.length 0 es (n + 1) 0, s.push ⟨bs.set b [] ++ [row ++ r2], tk ++ [none]⟩) := by
 have hbox : (s.push ⟨bs, tk⟩).box s.acts.length b = some row := by rw [box_push]; exact hb
 have hreg : (s.push ⟨bs, tk⟩).regrow b (row ++ r2) = s.push ⟨bs.set b [] ++ [row ++ r2], tk ++ [none]⟩ := by
  unfold Sig.regrow
  rw [cur_push, onRec_push]
 simp [appendmOp, most, cur_push, nbox_push, hn, hm, hbox, hl, hreg]
theorem chunks_flat {es : Nat} : ∀ {xs : List (List AV)}, (∀ r ∈ xs, r.length = es) → chunks es xs.length xs.flatten = xs
 | [], _ => rfl
 | r :: xs, h => by
  have hr := h r (by simp)
  simp only [List.length_cons, chunks, List.flatten_cons]
  rw [List.take_left' hr, List.drop_left' hr, chunks_flat fun q hq => h q (List.mem_cons_of_mem _ hq)]
theorem len_rsl {d b off es n cap : Nat} : lenOp false (.rsl d b off es n cap) = some (I (n : Int)) := rfl
theorem ix_rsl {d b es n : Nat} {i : Nat} (h : i < n) : indexAddrOp none es (.rsl d b 0 es n 0) (I (i : Int)) = some (.ptr d b (0 + i * es)) := by
 have h1 : idx (I (i : Int)) n = some i := by simp [idx]; omega
 simp [indexAddrOp, h1]
section
variable {s : Sig} {w : W}
end
end Go.Ax.Sx.Sc

namespace Go.Ax.Sx.Sc
open Go.Ax
set_option linter.unusedSimpArgs false
set_option linter.unusedVariables false
set_option maxRecDepth 100000
def flP (l : List P) : List AV := (l.map rowP).flatten
theorem flP_cons {p : P} {l : List P} : flP (p :: l) = rowP p ++ flP l := by simp [flP]
theorem flP_app {a b : List P} : flP (a ++ b) = flP a ++ flP b := by simp [flP]
theorem flP_len {l : List P} : (flP l).length = l.length * 3 := by
 induction l with
 | nil => rfl
 | cons p r ih => rw [flP_cons, List.length_append, ih]; simp only [rowP, List.length_cons, List.length_nil]; omega
theorem flP_part {l : List P} {k : Nat} {p : P} (h : l[k]? = some p) : cutN (0 + k * 3) 3 (flP l) = some (rowP p) := by
 obtain ⟨A, B, rfl, rfl⟩ : ∃ A B, l = A ++ p :: B ∧ A.length = k := by
  obtain ⟨hk, he⟩ := List.getElem?_eq_some_iff.1 h
  refine ⟨l.take k, l.drop (k + 1), ?_, by rw [List.length_take]; omega⟩
  rw [← he, List.getElem_cons_drop, List.take_append_drop]
 have hlen := flP_len (l := A ++ p :: B)
 rw [List.length_append, List.length_cons] at hlen
 rw [cutN_eq, if_pos (by omega), flP_app, flP_cons, Nat.zero_add, ← flP_len, List.drop_left]
 rfl
section
variable {s : Sig} {w : W}
theorem z_IndexFunc_V {l : List P} {d b : Nat} {g : FuncId} {caps : List AV} {p : P → Bool} (hb : s.box d b = some (flP l)) (hl : (l.length : Int) < 9223372036854775808)
  (hg : ∀ a ∈ l, ∀ r, callL AP (.fn g) (.agg (rowP a) :: caps) (s.push r) = some (B (p a), s.push r)) : callL AP (.fn 62) [.rsl d b 0 3 l.length 0, .fn g [] caps] s = some (I (findI p l), s) := by
 have key : ∀ k ρ m, k ≤ l.length → (ρ 0 = .rsl d b 0 3 l.length 0 ∧ ρ 1 = .fn g [] caps ∧ ρ 7 = I l.length ∧ ρ 8 = I k ∧ (∀ j y, j < k → l[j]? = some y → p y = false) ∧ m = s.push ⟨[], []⟩) → go AP f_z_IndexFunc_SchedulePass (.c (.loop b_z_IndexFunc_SchedulePass_l0) :: k_z_IndexFunc_SchedulePass_0) ⟨ρ, m⟩ = some (I (findI p l), s) := by
  refine loop_up l.length _ _ ?_ ?_
  ·rintro k ρ m hk ⟨h0, h1, h7, h8, hp, rfl⟩ ih
   obtain ⟨a, ha⟩ := get_some hk
   have hr := ix_rsl (d := d) (b := b) (es := 3) hk
   have hpt := flP_part ha
   have hbk : ∀ r, (s.push r).box d b = some (flP l) := fun r => box_keep hb r
   simp (maxSteps := 1000000) only [go_sem, b_z_IndexFunc_SchedulePass_l0, h0, h1, h7, h8, lt_dec hk, hr, hbk, hpt, hg a (List.mem_of_getElem? ha), wrap_succ hk hl, Nat.reduceEqDiff, reduceCtorEq, ↓reduceIte]
   cases hpa : p a with
   | true =>
    simp only [cond_true]
    rw [findI_at ha hpa hp]
   | false =>
    simp only [cond_false]
    refine ih _ _ ?_
    refine ⟨h0, h1, h7, rfl, fun j y hj hy => ?_, rfl⟩
    by_cases e : j = k
    ·subst e; rw [ha] at hy; injection hy with hy; rw [← hy]; exact hpa
    ·exact hp j y (by omega) hy
  ·rintro ρ m ⟨h0, h1, h7, h8, hp, rfl⟩
   simp (maxSteps := 1000000) only [go_sem, b_z_IndexFunc_SchedulePass_l0, b_z_IndexFunc_SchedulePass_r0, h7, h8, ge_dec, Int.reduceNeg, ↓reduceIte]
   rw [findI_no hp]
 rw [callL_go (show AP 62 = some c_z_IndexFunc_SchedulePass from rfl) rfl]
 simp (maxSteps := 1000000) only [go_sem, b_z_IndexFunc_SchedulePass, len_rsl, reduceCtorEq, ↓reduceIte]
 exact key 0 _ _ (Nat.zero_le _) ⟨rfl, rfl, rfl, rfl, fun j y hj => absurd hj (Nat.not_lt_zero _), rfl⟩
theorem z_ContainsFunc_V {l : List P} {d b : Nat} {g : FuncId} {caps : List AV} {p : P → Bool} (hb : s.box d b = some (flP l)) (hl : (l.length : Int) < 9223372036854775808)
  (hg : ∀ a ∈ l, ∀ r q, callL AP (.fn g) (.agg (rowP a) :: caps) ((s.push r).push q) = some (B (p a), (s.push r).push q)) : callL AP (.fn 88) [.rsl d b 0 3 l.length 0, .fn g [] caps] s = some (B (l.any p), s) := by
 have h := z_IndexFunc_V (s := s.push ⟨[], []⟩) (caps := caps) (g := g) (box_keep hb _) hl (fun a ha r => hg a ha _ r)
 rw [callL_go (show AP 88 = some c_z_ContainsFunc_SchedulePass from rfl) rfl]
 simp (maxSteps := 1000000) only [go_sem, b_z_ContainsFunc_SchedulePass, h, findI_nn, Nat.reduceEqDiff, reduceCtorEq, ↓reduceIte]
theorem w_conflicts_V {p : P} {l : List P} {d b : Nat} (hs : Ok s) (hw : Wk w) (hp : PIn w p) (hl : ∀ x ∈ l, PIn w x) (hb : s.box d b = some (flP l)) (hn : (l.length : Int) < 9223372036854775808) :
  callL AP (.fn 55) [OW w, .agg (rowP p), .rsl d b 0 3 l.length 0] s = some (B (confs w p l), s) := by
 have h : ∀ r, callL AP (.fn 88) [.rsl d b 0 3 l.length 0, .fn 89 [] [.ptr s.acts.length 0 0, .ptr s.acts.length 1 0]] (s.push ⟨[OW w] :: rowP p :: r, []⟩) = some (B (confs w p l), s.push ⟨[OW w] :: rowP p :: r, []⟩) := fun r =>
  z_ContainsFunc_V (box_keep hb _) hn fun a ha r q => w_conflicts_1 (((hs.push _).push _).push _) hw (hl a ha) hp (box_keep (box_keep box_at0 _) _) (box_keep (box_keep box_at1 _) _)
 rw [callL_go (show AP 55 = some c_w_conflicts from rfl) rfl]
 simp only [OW, rowP, Sl.v] at h ⊢
 simp (maxSteps := 1000000) only [go_sem, b_w_conflicts, h, Nat.reduceEqDiff, Nat.reduceAdd, ↓reduceIte]
theorem plc_round_V {X T : Rec → Sig} {l d : Nat} {ρ : Nat → AV} {r : Rec} {p : P} {pl : List P} {done : List P} {dp bp : Nat} (hM : Mid X d) (hX : ∀ r, busy l (T r) = X r) (hR : ∀ r, Ready l ⟨true, none, ρ, [12], b_w_placements_a0, b_w_placements_y0⟩ (T r)) (hok : ∀ r, Ok (T r)) (hw : Wk w) (hp : PIn w p) (hpl : ∀ x ∈ pl, PIn w x) (hlow : ∀ r, (X r).box dp bp = some (flP pl)) (hn : (pl.length : Int) < 9223372036854775808)
  (h3 : ρ 3 = .ptr d 0 0) (h4 : ρ 4 = .ptr d 1 0) (h7 : ρ 7 = .ptr d 2 0) (hd : done.length < 1000000)
  (hI : ∃ x og, r.boxes = [[OW w], [.rsl dp bp 0 3 pl.length 0], [x]] ∧ Acc d 3 ((done.filter fun x => !confs w x pl).map rowP) x og r.toks) :
  ∃ r', callL AP (.yield l) [.agg (rowP p)] (T r) = some (.v (.bool true), T r') ∧ ∃ x og, r'.boxes = [[OW w], [.rsl dp bp 0 3 pl.length 0], [x]] ∧ Acc d 3 (((done ++ [p]).filter fun x => !confs w x pl).map rowP) x og r'.toks := by
 obtain ⟨x, og, hb, hA⟩ := hI
 have hfin : ∀ r ρ' q, finR l .normal ⟨ρ', (X r).push q⟩ = some (.v (.bool true), T r) := fun r ρ' q => by rw [← hX]; exact finR_n (hR r)
 have hokX : ∀ r, Ok (X r) := fun r => by rw [← hX]; exact (hok r).busy
 have hTX : ∀ r, (T r).acts.length = (X r).acts.length := fun r => by rw [← hX]; rfl
 have k0 : ∀ q, ((X r).push q).box d 0 = some [OW w] := fun q => by rw [hM.box, hb]; rfl
 have k1 : ∀ q, ((X r).push q).box d 1 = some [.rsl dp bp 0 3 pl.length 0] := fun q => by rw [hM.box, hb]; rfl
 have k2 : ∀ q, ((X r).push q).box d 2 = some [x] := fun q => by rw [hM.box, hb]; rfl
 have hc : ∀ q, callL AP (.fn 55) [OW w, .agg (rowP p), .rsl dp bp 0 3 pl.length 0] ((X r).push q) = some (B (confs w p pl), (X r).push q) := fun q => w_conflicts_V ((hokX r).push q) hw hp hpl (box_keep (hlow r) q) hn
 have hlen : (done.filter fun x => !confs w x pl).length ≤ done.length := List.length_filter_le _ _
 have hpc : closeAll (rowP p) = some (rowP p) := by
  simp only [rowP, closeAll_cons, closeAll_nil, close_int, Sl.close hp.ok]; rfl
 rw [callL_round (hR r) rfl]
 simp only [rowP, Sl.v] at hc hpc ⊢
 cases hcf : confs w p pl with
 | true =>
  rw [hcf] at hc
  refine ⟨r, ?_, x, og, hb, ?_⟩
  ·simp (maxSteps := 1000000) only [go_sem, b_w_placements_a0, finA_n (hR r), hok r, setParams_1, Nat.reduceEqDiff, ↓reduceIte]
   simp (maxSteps := 1000000) only [go_sem, b_w_placements_y0, hX, hTX, h3, h4, k0, k1, hc, hfin, Nat.reduceEqDiff, ↓reduceIte]
  ·rw [List.filter_append]
   simpa [hcf] using hA
 | false =>
  rw [hcf] at hc
  obtain ⟨x1, m1, r0', x', og', tk', a1, a2, a3, a4, a5, a6⟩ := hM.append (r0 := ⟨[rowP p], []⟩) hA .full (ys := [rowP p]) (by simp) (by simp; omega) (b := 2) (by rw [hb]; simp) ⟨x, by rw [hb]; rfl⟩
  refine ⟨⟨r.boxes.set 2 [x'], tk'⟩, ?_, x', og', ?_, ?_⟩
  ·simp only [rowP, Sl.v] at a1 a2
   simp (maxSteps := 1000000) only [go_sem, b_w_placements_a0, finA_n (hR r), hok r, setParams_1, Nat.reduceEqDiff, ↓reduceIte]
   simp (maxSteps := 1000000) only [go_sem, b_w_placements_y0, hX, hTX, h3, h4, h7, k0, k1, k2, hc, hfin, hpc, a1, a2, Nat.reduceEqDiff, ↓reduceIte]
  ·rw [hb]; rfl
  ·rw [List.filter_append, List.map_append]
   have : List.map rowP (List.filter (fun x => !confs w x pl) [p]) = [rowP p] := by simp [hcf]
   rw [this]; exact a4
theorem low_loop {d b l : Nat} {cs : List AV} {lp : ALoop} {B : List Rec} {ls : List ALoop} {r : Rec} (h : s.box d b = some cs) : (up (busy l (enterLoop (s.push r) lp)) B ls).box d b = some cs := by
 have hd : d < s.acts.length := by
  apply Classical.byContradiction
  intro hn
  rw [Sig.box, List.getElem?_eq_none (by omega)] at h; simp at h
 have hd2 : d < (s.acts ++ [r]).length := by simp; omega
 simp only [Sig.box, up, busy, setLoop, enterLoop, Sig.push] at h ⊢
 rw [List.getElem?_append_left hd2, List.getElem?_append_left hd]; exact h
theorem plc_hand_V {ρ : Nat → AV} {pl : List P} {dp bp : Nat} (hs : Ok s) (hw : Wk w) (hpl : ∀ x ∈ pl, PIn w x) (hb : s.box dp bp = some (flP pl)) (hn : (pl.length : Int) < 9223372036854775808)
  (h3 : ρ 3 = .ptr s.acts.length 0 0) (h4 : ρ 4 = .ptr s.acts.length 1 0) (h7 : ρ 7 = .ptr s.acts.length 2 0) :
  Hand AP s.loops.length (fun p => .agg (rowP p)) (plcB s ρ) (fun done r => ∃ x og, r.boxes = [[OW w], [.rsl dp bp 0 3 pl.length 0], [x]] ∧ Acc s.acts.length 3 ((done.filter fun x => !confs w x pl).map rowP) x og r.toks)
   (fun _ _ => false) (fun _ _ _ => False) (PIn w) (s.acts.length + 1) (s.loops.length + 1) 100000 := by
 refine ⟨fun r => (hs.push _).enter, fun r => by simp [plcB, enterLoop, Sig.push], fun r => by simp [plcB, enterLoop, Sig.push], ?_, fun _ _ _ _ _ _ _ _ h => by cases h⟩
 intro done p r B ls hd hI hp _
 have hM : Mid (fun r => up (busy s.loops.length (enterLoop (s.push r) ⟨true, none, ρ, [12], b_w_placements_a0, b_w_placements_y0⟩)) B ls) s.acts.length := mid_loop hs
 have hX : ∀ r, busy s.loops.length (up (plcB s ρ r) B ls) = (fun r => up (busy s.loops.length (enterLoop (s.push r) ⟨true, none, ρ, [12], b_w_placements_a0, b_w_placements_y0⟩)) B ls) r := fun r => up_busy (by simp [enterLoop, Sig.push])
 exact plc_round_V (T := fun r => up (plcB s ρ r) B ls) hM hX (fun r => up_ready (enter_ready (hs.push r))) (fun r => ((hs.push _).enter).up) hw hp hpl (fun r => low_loop hb) hn h3 h4 h7 (by omega) hI
theorem w_placements_V {pl : List P} {dp bp : Nat} {i : Int} (hs : Ok s) (hw : Wk w) (hpl : ∀ x ∈ pl, PIn w x) (hbx : s.box dp bp = some (flP pl)) (hn : (pl.length : Int) < 9223372036854775808) (h0 : 0 ≤ i) (h1 : i < w.rs.l.length) :
  callL AP (.fn 31) [OW w, .rsl dp bp 0 3 pl.length 0, I i] s = some (accV 3 ((plcs w pl i).map rowP), s) := by
 have key : ∀ ρ : Nat → AV, ρ 3 = .ptr s.acts.length 0 0 → ρ 4 = .ptr s.acts.length 1 0 → ρ 7 = .ptr s.acts.length 2 0 → ρ 11 = .fn 85 [] [.eptr [OW w] 0, .eptr [I i] 0] →
   go AP f_w_placements (.c (.rangeFunc (.tmp 11) [12] b_w_placements_a0 b_w_placements_y0) :: .blk 0 :: [.c b_w_placements_r0]) ⟨ρ, s.push ⟨[[OW w], [.rsl dp bp 0 3 pl.length 0], [.slice .nilS 0 []]], []⟩⟩ = some (accV 3 ((plcs w pl i).map rowP), s) := by
  intro ρ h3 h4 h7 h11
  obtain ⟨b, r', hc, hE⟩ := poss_calls (plc_hand_V hs hw hpl hbx hn h3 h4 h7) hw h0 h1 (i := ⟨[[OW w], [.rsl dp bp 0 3 pl.length 0], [.slice .nilS 0 []]], []⟩) (done := []) (by have := poss_count hw h0 h1; simp; omega) ⟨_, none, rfl, Acc.start⟩ (fun p hp => (poss_in hw h0 h1 hp).1)
  obtain ⟨rfl, x, og, hb, hA⟩ := hE.never (fun _ _ => rfl)
  rw [go_range (x := .tmp 11) h11]
  refine (congrArg (Option.bind · _) hc).trans ?_
  simp only [Option.bind_some]
  refine (goL_normal (m := s.push r') (lp := ⟨true, none, ρ, [12], b_w_placements_a0, b_w_placements_y0⟩) rfl rfl rfl).trans ?_
  obtain ⟨bx, tk⟩ := r'
  simp only at hb hA
  subst hb
  have hA' : Acc s.acts.length 3 ((plcs w pl i).map rowP) x og tk := hA
  simp (maxSteps := 1000000) only [go_sem, b_w_placements_r0, h7, hA'.leave, ↓reduceIte]
 have hp : ∀ r, callL AP (.fn 54) [OW w, I i] (s.push r) = some (.fn 85 [] [.eptr [OW w] 0, .eptr [I i] 0], s.push r) := fun r => w_possible (hs.push r)
 rw [callL_go (show AP 31 = some c_w_placements from rfl) rfl]
 simp only [OW] at key hp ⊢
 simp (maxSteps := 1000000) only [go_sem, b_w_placements, hp, Nat.reduceEqDiff, Nat.reduceAdd, ↓reduceIte]
 exact key _ rfl rfl rfl rfl
end
end Go.Ax.Sx.Sc
