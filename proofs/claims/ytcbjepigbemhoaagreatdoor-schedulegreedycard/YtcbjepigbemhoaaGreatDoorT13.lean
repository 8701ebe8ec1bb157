/- A part of the proof. -/
import Derived.Test.YtcbjepigbemhoaaGreatDoorT12
import Derived.Test.YtcbjepigbemhoaaGreatDoorT11
import Derived.Test.YtcbjepigbemhoaaGreatDoorT10
namespace Go.Ax.Sx.Sc
open Go.Ax
set_option linter.unusedSimpArgs false
set_option linter.unusedVariables false
set_option maxRecDepth 100000

/-- lexicographically before -/
def lexB : List Int → List Int → Bool
  | [], [] => false
  | [], _ :: _ => true
  | _ :: _, [] => false
  | x :: r, y :: t => if x = y then lexB r t else decide (x < y)
/-- what a pass is compared by -/
def kP (p : P) : List Int := p.req :: p.start :: p.an.l
def cmpP (p q : P) : Int := if lexB (kP p) (kP q) = true then -1 else if lexB (kP q) (kP p) = true then 1 else 0
def sameF : List P → List P → Bool
  | [], [] => true
  | x :: r, y :: t => decide (cmpP x y = 0) && sameF r t
  | _, _ => false

theorem lexB_irrefl : ∀ {l : List Int}, lexB l l = false
  | [] => rfl
  | x :: r => by simp only [lexB, if_true]; exact lexB_irrefl
theorem cmpP_key {p q : P} (h : kP p = kP q) : cmpP p q = 0 := by
  unfold cmpP; rw [h, lexB_irrefl]; simp
theorem sameF_map {f g : P → P} (h : ∀ p, kP (f p) = kP (g p)) : ∀ {l : List P}, sameF (l.map f) (l.map g) = true
  | [] => rfl
  | x :: r => by simp only [List.map_cons, sameF, cmpP_key (h x), decide_true, Bool.true_and]; exact sameF_map h

section
variable {s : Sig} {w : W}

theorem b_Before {a b : List Int} {o1 o2 : Own} {e1 e2 : Nat} (h1 : a = [] ∨ e1 = 1) (h2 : b = [] ∨ e2 = 1) (l1 : a.length ≤ 100000) (l2 : b.length ≤ 100000) :
    callL AP (.fn 52) [.slice o1 e1 (a.map rowI), .slice o2 e2 (b.map rowI)] s = some (B (lexB a b), s) := by
  have key : ∀ (k : Nat) ρ m, k ≤ min a.length b.length → (ρ 0 = .slice o1 e1 (a.map rowI) ∧ ρ 1 = .slice o2 e2 (b.map rowI) ∧ ρ 5 = I k ∧ m = s.push ⟨[], []⟩) →
      go AP f_b_Before (.c (.loop b_b_Before_l0) :: k_b_Before_0) ⟨ρ, m⟩ = some (B (lexB (a.drop k) (b.drop k)), s) := by
    refine loop_up (min a.length b.length) _ _ ?_ ?_
    · rintro k ρ m hk ⟨g0, g1, g5, rfl⟩ ih
      obtain ⟨x, hx⟩ := get_some (l := a) (k := k) (by omega)
      obtain ⟨y, hy⟩ := get_some (l := b) (k := k) (by omega)
      have he1 : e1 = 1 := by rcases h1 with h | h; (rw [h] at hx; simp at hx); exact h
      have he2 : e2 = 1 := by rcases h2 with h | h; (rw [h] at hy; simp at hy); exact h
      subst he1; subst he2
      have ha := ix_map (f := rowI) (o := o1) (es := 1) hx
      have hb := ix_map (f := rowI) (o := o2) (es := 1) hy
      have d1 : decide ((k : Int) < (a.length : Int)) = true := by simp; omega
      have d2 : decide ((k : Int) < (b.length : Int)) = true := by simp; omega
      rw [drop_get hx, drop_get hy, lexB]
      by_cases hxy : x = y
      · rw [if_pos hxy]
        have hd : decide (¬ x = y) = false := by simp [hxy]
        have hwr : IntKind.i64.wrap ((k : Int) + 1) = ((k + 1 : Nat) : Int) := by rw [wrap_id (by omega) (by omega)]; omega
        simp (maxSteps := 1000000) only [go_sem, b_b_Before_l0, g0, g1, g5, d1, d2, ha, hb, hd, ne_eq, hwr, Nat.reduceEqDiff, reduceCtorEq, ↓reduceIte]
        exact ih _ _ ⟨g0, g1, rfl, rfl⟩
      · rw [if_neg hxy]
        have hd : decide (¬ x = y) = true := by simp [hxy]
        simp (maxSteps := 1000000) only [go_sem, b_b_Before_l0, g0, g1, g5, d1, d2, ha, hb, hd, ne_eq, Nat.reduceEqDiff, reduceCtorEq, ↓reduceIte]
    · rintro ρ m ⟨g0, g1, g5, rfl⟩
      by_cases hab : a.length ≤ b.length
      · have hmin : min a.length b.length = a.length := by omega
        rw [hmin] at g5 ⊢
        have d1 : decide ((a.length : Int) < (a.length : Int)) = false := by simp
        rw [List.drop_length]
        simp (maxSteps := 1000000) only [go_sem, b_b_Before_l0, b_b_Before_r0, g0, g1, g5, d1, Nat.reduceEqDiff, reduceCtorEq, ↓reduceIte]
        by_cases hlt : a.length < b.length
        · have : ∃ y r, b.drop a.length = y :: r := by
            obtain ⟨y, hy⟩ := get_some hlt
            exact ⟨y, _, drop_get hy⟩
          obtain ⟨y, r, hd⟩ := this
          rw [hd]
          simp only [lexB]
          have : decide ((a.length : Int) < (b.length : Int)) = true := by simp; omega
          rw [this]
        · rw [List.drop_of_length_le (by omega)]
          simp only [lexB]
          have : decide ((a.length : Int) < (b.length : Int)) = false := by simp; omega
          rw [this]
      · have hmin : min a.length b.length = b.length := by omega
        rw [hmin] at g5 ⊢
        have d1 : decide ((b.length : Int) < (a.length : Int)) = true := by simp; omega
        have d2 : decide ((b.length : Int) < (b.length : Int)) = false := by simp
        obtain ⟨x, hx⟩ := get_some (l := a) (k := b.length) (by omega)
        have d3 : decide ((a.length : Int) < (b.length : Int)) = false := by simp; omega
        simp (maxSteps := 1000000) only [go_sem, b_b_Before_l0, b_b_Before_r0, g0, g1, g5, d1, d2, d3, Nat.reduceEqDiff, reduceCtorEq, ↓reduceIte]
        rw [drop_get hx, List.drop_length]; rfl
  rw [callL_go (show AP 52 = some c_b_Before from rfl) rfl]
  simp (maxSteps := 1000000) only [go_sem, b_b_Before]
  exact key 0 _ _ (Nat.zero_le _) ⟨rfl, rfl, rfl, rfl⟩

theorem kP_rows {p : P} : [[I p.req], [I p.start]] ++ p.an.l.map rowI = (kP p).map rowI := rfl

theorem r_compare {p q : P} (hs : Ok s) (hp : p.an.ok 1) (hq : q.an.ok 1) (lp : p.an.l.length ≤ 1000) (lq : q.an.l.length ≤ 1000) :
    callL AP (.fn 29) [.agg (rowP p), .agg (rowP q)] s = some (I (cmpP p q), s) := by
  obtain ⟨o1, tk1, ha1, _, _⟩ := app_lit (q := s) (b := []) (tk := []) (lit := [[I p.req], [I p.start]]) (ys := p.an.l.map rowI) (o := p.an.o) (e := p.an.e) (by rcases hp.1 with h | h; exact .inl (by rw [h]; rfl); exact .inr h) (by simp; omega)
  obtain ⟨o2, tk2, ha2, _, _⟩ := app_lit (q := s) (b := []) (tk := tk1) (lit := [[I q.req], [I q.start]]) (ys := q.an.l.map rowI) (o := q.an.o) (e := q.an.e) (by rcases hq.1 with h | h; exact .inl (by rw [h]; rfl); exact .inr h) (by simp; omega)
  rw [kP_rows] at ha1 ha2
  have hb1 : ∀ m : Sig, callL AP (.fn 52) [.slice o1 1 ((kP p).map rowI), .slice o2 1 ((kP q).map rowI)] m = some (B (lexB (kP p) (kP q)), m) := fun m => b_Before (.inr rfl) (.inr rfl) (by simp [kP]; omega) (by simp [kP]; omega)
  have hb2 : ∀ m : Sig, callL AP (.fn 52) [.slice o2 1 ((kP q).map rowI), .slice o1 1 ((kP p).map rowI)] m = some (B (lexB (kP q) (kP p)), m) := fun m => b_Before (.inr rfl) (.inr rfl) (by simp [kP]; omega) (by simp [kP]; omega)
  rw [callL_go (show AP 29 = some c_r_compare from rfl) rfl]
  unfold cmpP
  cases h1 : lexB (kP p) (kP q) with
  | true => simp (maxSteps := 1000000) only [go_sem, b_r_compare, ha1, ha2, hb1, h1, Nat.reduceEqDiff, Nat.reduceAdd, Int.reduceNeg, ↓reduceIte]
  | false =>
    cases h2 : lexB (kP q) (kP p) with
    | true => simp (maxSteps := 1000000) only [go_sem, b_r_compare, ha1, ha2, hb1, hb2, h1, h2, Bool.false_eq_true, Nat.reduceEqDiff, Nat.reduceAdd, Int.reduceNeg, ↓reduceIte]
    | false => simp (maxSteps := 1000000) only [go_sem, b_r_compare, ha1, ha2, hb1, hb2, h1, h2, Bool.false_eq_true, Nat.reduceEqDiff, Nat.reduceAdd, Int.reduceNeg, ↓reduceIte]

structure SmOk (l : List P) : Prop where
  len : l.length ≤ 100000
  ok : ∀ p ∈ l, p.an.ok 1 ∧ p.an.l.length ≤ 1000

theorem r_Same {a b : List P} {o1 o2 : Own} {e1 e2 : Nat} (hs : Ok s) (h1 : a = [] ∨ e1 = 3) (h2 : b = [] ∨ e2 = 3) (l1 : SmOk a) (l2 : SmOk b) :
    callL AP (.fn 9) [.slice o1 e1 (a.map rowP), .slice o2 e2 (b.map rowP)] s = some (B (sameF a b), s) := by
  have hla := l1.len
  have hlb := l2.len
  by_cases hab : a.length = b.length
  · have key : ∀ (k : Nat) ρ m, k ≤ a.length → (ρ 0 = .slice o1 e1 (a.map rowP) ∧ ρ 1 = .slice o2 e2 (b.map rowP) ∧ ρ 5 = I k ∧ m = s.push ⟨[], []⟩) →
        go AP f_r_Same (.c (.loop b_r_Same_l0) :: k_r_Same_0) ⟨ρ, m⟩ = some (B (sameF (a.drop k) (b.drop k)), s) := by
      refine loop_up a.length _ _ ?_ ?_
      · rintro k ρ m hk ⟨g0, g1, g5, rfl⟩ ih
        obtain ⟨x, hx⟩ := get_some (l := a) (k := k) (by omega)
        obtain ⟨y, hy⟩ := get_some (l := b) (k := k) (by omega)
        have he1 : e1 = 3 := by rcases h1 with h | h; (rw [h] at hx; simp at hx); exact h
        have he2 : e2 = 3 := by rcases h2 with h | h; (rw [h] at hy; simp at hy); exact h
        subst he1; subst he2
        have ha := ix_map (f := rowP) (o := o1) (es := 3) hx
        have hb := ix_map (f := rowP) (o := o2) (es := 3) hy
        have hxo := l1.ok x (List.mem_of_getElem? hx)
        have hyo := l2.ok y (List.mem_of_getElem? hy)
        have hcm : ∀ r, callL AP (.fn 29) [.agg (rowP x), .agg (rowP y)] (s.push r) = some (I (cmpP x y), s.push r) := fun r => r_compare (hs.push r) hxo.1 hyo.1 hxo.2 hyo.2
        rw [drop_get hx, drop_get hy, sameF]
        simp only [rowP, Sl.v] at hcm ha hb
        by_cases hc : cmpP x y = 0
        · have hd : decide (¬ cmpP x y = 0) = false := by simp [hc]
          rw [decide_eq_true hc, Bool.true_and]
          simp (maxSteps := 1000000) only [go_sem, b_r_Same_l0, g0, g1, g5, lt_dec hk, ha, hb, hcm, hd, ne_eq, wrap_succ hk (show (a.length : Int) < _ by omega), Nat.reduceEqDiff, reduceCtorEq, ↓reduceIte]
          refine ih _ _ ?_
          exact ⟨g0, g1, rfl, rfl⟩
        · have hd : decide (¬ cmpP x y = 0) = true := by simp [hc]
          rw [decide_eq_false hc, Bool.false_and]
          simp (maxSteps := 1000000) only [go_sem, b_r_Same_l0, g0, g1, g5, lt_dec hk, ha, hb, hcm, hd, ne_eq, Nat.reduceEqDiff, reduceCtorEq, ↓reduceIte]
      · rintro ρ m ⟨g0, g1, g5, rfl⟩
        simp (maxSteps := 1000000) only [go_sem, b_r_Same_l0, b_r_Same_r0, g0, g5, ge_dec, Nat.reduceEqDiff, reduceCtorEq, ↓reduceIte]
        rw [List.drop_length, List.drop_of_length_le (by omega)]; rfl
    have hd : decide (¬ (a.length : Int) = (b.length : Int)) = false := by simp [hab]
    rw [callL_go (show AP 9 = some c_r_Same from rfl) rfl]
    simp (maxSteps := 1000000) only [go_sem, b_r_Same, hd, ne_eq, Nat.reduceEqDiff, reduceCtorEq, ↓reduceIte]
    exact key 0 _ _ (Nat.zero_le _) ⟨rfl, rfl, rfl, rfl⟩
  · have hsf : ∀ {a b : List P}, a.length ≠ b.length → sameF a b = false := by
      intro a
      induction a with
      | nil => intro b h; cases b with
        | nil => exact absurd rfl h
        | cons _ _ => rfl
      | cons x r ih => intro b h; cases b with
        | nil => rfl
        | cons y t => simp only [sameF]; rw [ih (b := t) (by simpa using h), Bool.and_false]
    have hd : decide (¬ (a.length : Int) = (b.length : Int)) = true := by simp; omega
    rw [hsf hab]
    rw [callL_go (show AP 9 = some c_r_Same from rfl) rfl]
    simp (maxSteps := 1000000) only [go_sem, b_r_Same, hd, ne_eq, Nat.reduceEqDiff, reduceCtorEq, ↓reduceIte]

theorem r_PassOf {l : List P} {o : Own} {e : Nat} {i : Int} (he : l = [] ∨ e = 3) (hl : l.length ≤ 100000) : callL AP (.fn 13) [.slice o e (l.map rowP), I i] s = some (I (findI (fun p : P => decide (p.req = i)) l), s) := by
  have key : ∀ (k : Nat) ρ m, k ≤ l.length → (ρ 0 = .slice o e (l.map rowP) ∧ ρ 1 = I i ∧ ρ 5 = I k ∧ (∀ j y, j < k → l[j]? = some y → decide (y.req = i) = false) ∧ m = s.push ⟨[], []⟩) →
      go AP f_r_PassOf (.c (.loop b_r_PassOf_l0) :: k_r_PassOf_0) ⟨ρ, m⟩ = some (I (findI (fun p : P => decide (p.req = i)) l), s) := by
    refine loop_up l.length _ _ ?_ ?_
    · rintro k ρ m hk ⟨h0, h1, h5, hp, rfl⟩ ih
      obtain ⟨a, ha⟩ := get_some hk
      have he : e = 3 := by rcases he with h | h; (rw [h] at ha; simp at ha); exact h
      subst he
      have hr := ix_map (o := o) (es := 3) (f := rowP) ha
      cases hpa : decide (a.req = i) with
      | true =>
        simp (maxSteps := 1000000) only [go_sem, b_r_PassOf_l0, h0, h1, h5, lt_dec hk, hr, hpa, Nat.reduceEqDiff, reduceCtorEq, Nat.reduceAdd, ↓reduceIte]
        rw [findI_at ha hpa hp]
      | false =>
        simp (maxSteps := 1000000) only [go_sem, b_r_PassOf_l0, h0, h1, h5, lt_dec hk, hr, hpa, wrap_succ hk (show (l.length : Int) < _ by omega), Nat.reduceEqDiff, reduceCtorEq, Nat.reduceAdd, ↓reduceIte]
        refine ih _ _ ?_
        refine ⟨h0, h1, rfl, fun j y hj hy => ?_, rfl⟩
        by_cases e : j = k
        · subst e; rw [ha] at hy; injection hy with hy; rw [← hy]; exact hpa
        · exact hp j y (by omega) hy
    · rintro ρ m ⟨h0, h1, h5, hp, rfl⟩
      simp (maxSteps := 1000000) only [go_sem, b_r_PassOf_l0, b_r_PassOf_r0, h0, h5, ge_dec, Nat.reduceEqDiff, reduceCtorEq, Int.reduceNeg, ↓reduceIte]
      rw [findI_no hp]
  rw [callL_go (show AP 13 = some c_r_PassOf from rfl) rfl]
  simp (maxSteps := 1000000) only [go_sem, b_r_PassOf]
  exact key 0 _ _ (Nat.zero_le _) ⟨rfl, rfl, rfl, fun j y hj => absurd hj (Nat.not_lt_zero _), rfl⟩

end
end Go.Ax.Sx.Sc

namespace Go.Ax.Sx.Sc
open Go.Ax
set_option linter.unusedSimpArgs false
set_option linter.unusedVariables false
set_option maxRecDepth 100000

section
variable {w : W}

/-- Each pass is valid behind the ones before it. -/
def zs (w : W) : List P → List P → Prop
  | _, [] => True
  | a, p :: b => passE w p a = 0 ∧ zs w (a ++ [p]) b

theorem zs_ix : ∀ {b a : List P}, (∀ (j : Nat) x, b[j]? = some x → passE w x (a ++ b.take j) = 0) → zs w a b
  | [], _, _ => trivial
  | p :: b, a, h => by
    refine ⟨?_, zs_ix fun j x hj => ?_⟩
    · have := h 0 p rfl; simpa using this
    · have := h (j + 1) x hj
      rw [List.append_assoc]; exact this
theorem zs_first : ∀ {b a : List P} {l : List P}, l = a ++ b → zs w a b → firstAt (fun i x => passE w x (l.take i)) a.length b = none
  | [], _, _, _, _ => rfl
  | p :: b, a, l, hl, h => by
    simp only [firstAt]
    have e : l.take a.length = a := by rw [hl, List.take_left]
    rw [e, if_pos h.1]
    have := zs_first (b := b) (a := a ++ [p]) (l := l) (by rw [hl, List.append_assoc]; rfl) h.2
    rw [List.length_append] at this
    exact this
theorem chk_zs {l : List P} (h : zs w [] l) : chkE w l = (0, 0) := by
  have := zs_first (b := l) (a := []) (l := l) rfl h
  unfold chkE
  rw [show ([] : List P).length = 0 from rfl] at this
  rw [this]
theorem passE_last {p : P} {a : List P} (h : passE w p a = 0) : lastR a < p.req ∧ confs w p a = false := by
  unfold passE at h
  by_cases c1 : wi p.req 0 (w.rs.l.length - 1) = true
  · rw [if_pos c1] at h
    by_cases c2 : lastR a < p.req
    · refine ⟨c2, ?_⟩
      rw [if_pos c2] at h
      by_cases c3 : wi p.start (w.rq p.req).lo ((w.rq p.req).hi + 1 - (w.rq p.req).len) = true
      · rw [if_pos c3] at h
        by_cases c4 : (p.an.l.length : Int) = (w.rq p.req).need
        · rw [if_pos c4] at h
          by_cases c5 : anE (w.rq p.req) (-1) p.an.l = 0
          · rw [if_pos c5] at h
            by_cases c6 : (p.an.l.any fun a => !openB w a p.start (w.rq p.req).len) = true
            · rw [if_pos c6] at h; exact absurd h (by decide)
            · rw [if_neg c6] at h
              cases hc : confs w p a with
              | false => rfl
              | true => rw [hc] at h; exact absurd h (by decide)
          · rw [if_neg c5] at h; exact absurd h c5
        · rw [if_neg c4] at h; exact absurd h (by decide)
      · rw [if_neg c3] at h; exact absurd h (by decide)
    · rw [if_neg c2] at h; exact absurd h (by decide)
  · rw [if_neg c1] at h; exact absurd h (by decide)

theorem lastR_app {a b : List P} (h : b ≠ []) : lastR (a ++ b) = lastR b := by
  unfold lastR
  rw [List.getLast?_append, List.getLast?_eq_some_getLast h]; rfl
theorem zs_len : ∀ {b a : List P}, zs w a b → b ≠ [] → lastR a + b.length < w.rs.l.length
  | [], _, _, h => absurd rfl h
  | p :: b, a, h, _ => by
    have h1 := (passE_last h.1).1
    have h2 := passE_r h.1
    by_cases hb : b = []
    · subst hb; simp; omega
    · have := zs_len h.2 hb
      rw [lastR_app (by simp)] at this
      have e : lastR [p] = p.req := rfl
      rw [e] at this
      simp only [List.length_cons]
      omega
theorem zs_max (hw : Wk w) {l : List P} (h : zs w [] l) : l.length ≤ 12 := by
  have hrl := hw.v.rl
  by_cases hl : l = []
  · subst hl; simp
  · have := zs_len h hl
    have e : lastR ([] : List P) = -1 := rfl
    rw [e] at this
    omega

theorem anE_sub {r : R} : ∀ {g : List Int} {k : Int}, g.Pairwise (· < ·) → (∀ a ∈ g, a ∈ r.an.l ∧ k < a) → anE r k g = 0
  | [], _, _, _ => rfl
  | a :: t, k, hp, h => by
    have ha := h a (by simp)
    have hm : (r.an.l.any fun b => decide (a = b)) = true := List.any_eq_true.2 ⟨a, ha.1, by simp⟩
    simp only [anE]
    rw [if_pos hm, if_pos ha.2]
    exact anE_sub (List.Pairwise.of_cons hp) fun b hb => ⟨(h b (List.mem_cons_of_mem _ hb)).1, List.rel_of_pairwise_cons hp hb⟩

theorem passE_poss (hw : Wk w) {i : Int} (h0 : 0 ≤ i) (h1 : i < w.rs.l.length) {x : P} (hx : x ∈ poss w i) {a : List P} (hl : lastR a < i) (hc : confs w x a = false) : passE w x a = 0 := by
  obtain ⟨hpin, hr, hs1, hs2, hn, _, hsub, hop⟩ := poss_in hw h0 h1 hx
  have hq := hw.rq h0 h1
  unfold passE
  rw [hr]
  rw [if_pos (wi_iff.2 ⟨h0, by omega⟩), if_pos hl, if_pos (wi_iff.2 ⟨hs1, by omega⟩), if_pos hn]
  have han : anE (w.rq i) (-1) x.an.l = 0 := anE_sub (hq.anord.sublist hsub) fun b hb => ⟨hsub.subset hb, by have := (hq.anin b (hsub.subset hb)).1; omega⟩
  have hno : ¬ (x.an.l.any fun a => !openB w a x.start (w.rq i).len) = true := by
    rw [List.any_eq_true]
    rintro ⟨b, hb, h⟩
    rw [hop b hb] at h; exact absurd h (by decide)
  rw [if_pos han, if_neg hno, hc]
  rfl

end
end Go.Ax.Sx.Sc

namespace Go.Ax.Sx.Sc
open Go.Ax
set_option linter.unusedSimpArgs false
set_option linter.unusedVariables false
set_option maxRecDepth 100000

section
variable {w : W}

theorem possAt_c {i st : Int} (h0 : 0 ≤ i) (h1 : i < w.rs.l.length) : possAt (cW w) i st = possAt w i st := by
  unfold possAt readyA
  rw [cW_rq h0 h1]
  simp only [openB_c]
  rfl
theorem possFrom_c {i : Int} (h0 : 0 ≤ i) (h1 : i < w.rs.l.length) : ∀ {n : Nat} {st : Int}, possFrom (cW w) i st n = possFrom w i st n
  | 0, _ => rfl
  | n + 1, st => by simp only [possFrom]; rw [possAt_c h0 h1, possFrom_c h0 h1]
theorem poss_c {i : Int} (h0 : 0 ≤ i) (h1 : i < w.rs.l.length) : poss (cW w) i = poss w i := by
  unfold poss
  rw [possFrom_c h0 h1, cW_rq h0 h1]; rfl
theorem plcs_c (hw : Wk w) {l : List P} {i : Int} (h0 : 0 ≤ i) (h1 : i < w.rs.l.length) (hl : ∀ x ∈ l, 0 ≤ x.req ∧ x.req < w.rs.l.length) : plcs (cW w) (l.map cP) i = plcs w l i := by
  unfold plcs
  rw [poss_c h0 h1]
  apply List.filter_congr
  intro x hx
  obtain ⟨hpin, hr, _, _, _, han, _⟩ := poss_in hw h0 h1 hx
  have hx2 : cP x = x := by
    unfold cP; rw [← han]
  have := confs_c (w := w) (p := x) (l := l) hpin.r0 hpin.r1 hl
  rw [hx2] at this
  rw [this]
end
end Go.Ax.Sx.Sc

namespace Go.Ax.Sx.Sc
open Go.Ax
set_option linter.unusedSimpArgs false
set_option linter.unusedVariables false
set_option maxRecDepth 100000

/-! ### Orders -/
section
variable {w : W}
end

/-! ### Plans, the earlier ones first -/
end Go.Ax.Sx.Sc

namespace Go.Ax.Sx.Sc
open Go.Ax
set_option linter.unusedSimpArgs false
set_option linter.unusedVariables false
set_option maxRecDepth 100000

section
variable {w : W}

end
end Go.Ax.Sx.Sc

namespace Go.Ax.Sx.Sc
open Go.Ax
set_option linter.unusedSimpArgs false
set_option linter.unusedVariables false
set_option maxRecDepth 100000

section
variable {w : W}

theorem mems_iff {m : Nat} {i : Int} (hm : m < 2 ^ 62) : i ∈ mems m ↔ 0 ≤ i ∧ m.testBit i.toNat = true := by
  unfold mems memsUp
  simp only [List.mem_map, List.mem_filter, List.mem_range]
  constructor
  · rintro ⟨k, ⟨h1, h2⟩, rfl⟩; exact ⟨by omega, by simpa using h2⟩
  · rintro ⟨h0, h1⟩
    refine ⟨i.toNat, ⟨?_, h1⟩, by omega⟩
    apply Classical.byContradiction
    intro h
    have : m < 2 ^ i.toNat := Nat.lt_of_lt_of_le hm (Nat.pow_le_pow_right (by decide) (by omega))
    rw [Nat.testBit_lt_two_pow this] at h1
    exact absurd h1 (by decide)
theorem mems_asc {m : Nat} : (mems m).Pairwise (· < ·) := by
  unfold mems memsUp
  rw [List.pairwise_map]
  refine (List.Pairwise.filter _ List.pairwise_lt_range).imp fun h => by omega

end
end Go.Ax.Sx.Sc

namespace Go.Ax.Sx.Sc
open Go.Ax
set_option linter.unusedSimpArgs false
set_option linter.unusedVariables false
set_option maxRecDepth 100000

section
variable {w : W}

/-- A plan, as the document has it. -/
structure VP (w : W) (R : List P) : Prop where
  mem : ∀ p ∈ R, 0 ≤ p.req ∧ p.req < w.rs.l.length ∧ p ∈ poss w p.req
  asc : R.Pairwise fun a b => a.req < b.req
  nc : R.Pairwise fun a b => conf w a b = false

theorem VP.nil : VP w [] := ⟨fun _ h => absurd h (by simp), List.Pairwise.nil, List.Pairwise.nil⟩
theorem VP.pin (hw : Wk w) {R : List P} (h : VP w R) : ∀ p ∈ R, PIn w p := fun p hp => by
  obtain ⟨h0, h1, h2⟩ := h.mem p hp
  exact (poss_in hw h0 h1 h2).1
theorem VP.pre {a b : List P} (h : VP w (a ++ b)) : VP w a :=
  ⟨fun p hp => h.mem p (List.mem_append_left _ hp), (List.pairwise_append.1 h.asc).1, (List.pairwise_append.1 h.nc).1⟩

theorem own_bit : ∀ {R : List P} {o i : Nat}, (R.foldl (fun o p => o ||| 2 ^ p.req.toNat) o).testBit i = (o.testBit i || R.any fun p => decide (p.req.toNat = i))
  | [], o, i => by simp
  | p :: r, o, i => by
    rw [List.foldl_cons, own_bit (R := r), Nat.testBit_or, Nat.testBit_two_pow, List.any_cons, Bool.or_assoc]
theorem ownM_bit {R : List P} {i : Nat} : (ownM R).testBit i = R.any fun p => decide (p.req.toNat = i) := by
  unfold ownM
  rw [own_bit]; simp
theorem ownM_lt2 {R : List P} {n : Nat} (h : ∀ p ∈ R, p.req.toNat < n) : ownM R < 2 ^ n := by
  apply Nat.lt_pow_two_of_testBit
  intro i hi
  rw [ownM_bit, List.any_eq_false]
  intro p hp
  have := h p hp
  simp; omega

theorem sumV_map {w : W} : ∀ {R : List P}, sumV w (R.map (·.req)) = valP w R
  | [] => rfl
  | p :: r => by simp only [List.map_cons, sumV, valP]; rw [sumV_map]

theorem asc_eq : ∀ {a b : List Int}, a.Pairwise (· < ·) → b.Pairwise (· < ·) → (∀ x, x ∈ a ↔ x ∈ b) → a = b
  | [], [], _, _, _ => rfl
  | [], y :: b, _, _, h => absurd ((h y).2 (by simp)) (by simp)
  | x :: a, [], _, _, h => absurd ((h x).1 (by simp)) (by simp)
  | x :: a, y :: b, ha, hb, h => by
    have h1 := List.pairwise_cons.1 ha
    have h2 := List.pairwise_cons.1 hb
    have hxy : x = y := by
      rcases List.mem_cons.1 ((h x).1 (by simp)) with e | e
      · exact e
      · rcases List.mem_cons.1 ((h y).2 (by simp)) with e2 | e2
        · exact Eq.symm e2
        · have := h1.1 y e2; have := h2.1 x e; omega
    subst hxy
    congr 1
    refine asc_eq h1.2 h2.2 fun z => ?_
    constructor
    · intro hz
      rcases List.mem_cons.1 ((h z).1 (List.mem_cons_of_mem _ hz)) with e | e
      · subst e; have := h1.1 z hz; omega
      · exact e
    · intro hz
      rcases List.mem_cons.1 ((h z).2 (List.mem_cons_of_mem _ hz)) with e | e
      · subst e; have := h2.1 z hz; omega
      · exact e

theorem VP.own_lt {R : List P} (h : VP w R) : ownM R < 2 ^ w.rs.l.length := ownM_lt2 fun p hp => by have := (h.mem p hp).1; have := (h.mem p hp).2.1; omega
theorem VP.reqs (hw : Wk w) {R : List P} (h : VP w R) : mems (ownM R) = R.map (·.req) := by
  have hrl := hw.v.rl
  have hlt : ownM R < 2 ^ 62 := Nat.lt_of_lt_of_le h.own_lt (Nat.pow_le_pow_right (by decide) (by omega))
  refine asc_eq mems_asc (by rw [List.pairwise_map]; exact h.asc) fun x => ?_
  rw [mems_iff hlt, ownM_bit, List.any_eq_true]
  simp only [List.mem_map, decide_eq_true_eq]
  constructor
  · rintro ⟨h0, p, hp, he⟩
    have := (h.mem p hp).1
    exact ⟨p, hp, by omega⟩
  · rintro ⟨p, hp, rfl⟩
    exact ⟨(h.mem p hp).1, p, hp, rfl⟩
theorem VP.val (hw : Wk w) {R : List P} (h : VP w R) : worthB w (ownM R) = valP w R := by
  unfold worthB
  rw [h.reqs hw, sumV_map]
end
end Go.Ax.Sx.Sc

namespace Go.Ax.Sx.Sc
open Go.Ax
set_option linter.unusedSimpArgs false
set_option linter.unusedVariables false
set_option maxRecDepth 100000

section
variable {w : W}

theorem VP.sep (hw : Wk w) {R : List P} (h : VP w R) {p q : P} (hp : p ∈ R) (hq : q ∈ R) (hne : p.req ≠ q.req) : conf w p q = false := by
  obtain ⟨i, hi⟩ := List.getElem?_of_mem hp
  obtain ⟨j, hj⟩ := List.getElem?_of_mem hq
  obtain ⟨hil, hie⟩ := List.getElem?_eq_some_iff.1 hi
  obtain ⟨hjl, hje⟩ := List.getElem?_eq_some_iff.1 hj
  have hpw := List.pairwise_iff_getElem.1 h.nc
  rcases Nat.lt_trichotomy i j with hij | hij | hij
  · have := hpw i j hil hjl hij
    rwa [hie, hje] at this
  · subst hij
    rw [hi] at hj; injection hj with hj
    exact absurd (by rw [hj]) hne
  · have := hpw j i hjl hil hij
    rw [hie, hje] at this
    rw [conf_symm hw (h.pin hw p hp) (h.pin hw q hq)]; exact this

end
end Go.Ax.Sx.Sc

namespace Go.Ax.Sx.Sc
open Go.Ax
set_option linter.unusedSimpArgs false
set_option linter.unusedVariables false
set_option maxRecDepth 100000

section
variable {w : W}

end
end Go.Ax.Sx.Sc

namespace Go.Ax.Sx.Sc
open Go.Ax
set_option linter.unusedSimpArgs false
set_option linter.unusedVariables false
set_option maxRecDepth 100000

section
variable {w : W}

theorem confs_none {p : P} {l : List P} : confs w p l = false ↔ ∀ q ∈ l, conf w q p = false := by
  unfold confs
  rw [List.any_eq_false]
  constructor
  · intro h q hq; simpa using h q hq
  · intro h q hq; simpa using h q hq

end
end Go.Ax.Sx.Sc

namespace Go.Ax.Sx.Sc
open Go.Ax
set_option linter.unusedSimpArgs false
set_option linter.unusedVariables false
set_option maxRecDepth 100000

section
variable {w : W}

end
end Go.Ax.Sx.Sc

namespace Go.Ax.Sx.Sc
open Go.Ax
set_option linter.unusedSimpArgs false
set_option linter.unusedVariables false
set_option maxRecDepth 100000

section
variable {s : Sig} {w : W}

end
end Go.Ax.Sx.Sc

namespace Go.Ax.Sx.Sc
open Go.Ax
set_option linter.unusedSimpArgs false
set_option linter.unusedVariables false
set_option maxRecDepth 100000

section
variable {s : Sig} {w : W}

end
end Go.Ax.Sx.Sc

namespace Go.Ax.Sx.Sc
open Go.Ax
set_option linter.unusedSimpArgs false
set_option linter.unusedVariables false
set_option maxRecDepth 100000

section
variable {s : Sig} {w : W}

end
end Go.Ax.Sx.Sc

namespace Go.Ax.Sx.Sc
open Go.Ax
set_option linter.unusedSimpArgs false
set_option linter.unusedVariables false
set_option maxRecDepth 100000

section
variable {s : Sig} {w : W}

end
end Go.Ax.Sx.Sc

namespace Go.Ax.Sx.Sc
open Go.Ax
set_option linter.unusedSimpArgs false
set_option linter.unusedVariables false
set_option maxRecDepth 100000

section
variable {s : Sig} {w : W}

/-- A slice that may be appended to: a literal, or one that was appended to here. -/
def AG (d es : Nat) (xs : List (List AV)) (x : AV) (tk : List (Option Nat)) : Prop :=
  x = .slice .full es xs ∨ ∃ g, x = .slice (.tok d g) es xs ∧ tk[g]? = some (some xs.length)

theorem AG.sl {d es : Nat} {xs : List (List AV)} {x : AV} {tk : List (Option Nat)} (h : AG d es xs x tk) : ∃ o, x = .slice o es xs := by
  rcases h with h | ⟨g, h, _⟩
  · exact ⟨_, h⟩
  · exact ⟨_, h⟩
theorem AG.ext {d es : Nat} {xs : List (List AV)} {x : AV} {tk tk' : List (Option Nat)} (h : AG d es xs x tk) (hx : ∀ (g : Nat) (n : Option Nat), tk[g]? = some n → tk'[g]? = some n) : AG d es xs x tk' := by
  rcases h with h | ⟨g, h, hg⟩
  · exact .inl h
  · exact .inr ⟨g, h, hx _ _ hg⟩
theorem AG.append {es : Nat} {xs : List (List AV)} {x : AV} {tk : List (Option Nat)} (h : AG s.acts.length es xs x tk) (hs : Ok s) (o : Own) {ys : List (List AV)} (hy : ys ≠ []) (hl : xs.length + ys.length ≤ 4294967296) :
    ∃ x' tk', (∀ bx, appendOp (s.push ⟨bx, tk⟩) es x (.slice o es ys) = some (x', s.push ⟨bx, tk'⟩)) ∧ AG s.acts.length es (xs ++ ys) x' tk' := by
  have hy' : ys.isEmpty = false := by cases ys <;> simp_all
  rcases h with rfl | ⟨g, rfl, hg⟩
  · refine ⟨.slice (.tok s.acts.length tk.length) es (xs ++ ys), tk ++ [some (xs.length + ys.length)], fun bx => ?_, .inr ⟨tk.length, rfl, by simp⟩⟩
    simp [appendOp, hy', Own.isNil, most, hl, ntok_push, addTok_push, cur_push]
  · refine ⟨.slice (.tok s.acts.length g) es (xs ++ ys), tk.set g (some (xs.length + ys.length)), fun bx => ?_, .inr ⟨g, rfl, ?_⟩⟩
    · simp [appendOp, hy', most, hl, tok_push, hg, ro_push, hs.ro, setTok_push]
    · rw [List.getElem?_set_self (List.getElem?_eq_some_iff.1 hg).1]; simp

end
end Go.Ax.Sx.Sc

namespace Go.Ax.Sx.Sc
open Go.Ax
set_option linter.unusedSimpArgs false
set_option linter.unusedVariables false
set_option maxRecDepth 100000

section
variable {s : Sig} {w : W}

theorem own_full {Q : Sig} {R : Rec} {es : Nat} {xs : List (List AV)} : ownResult (Q.push R) (.slice .full es xs) = some (.slice .full es xs, Q) := by
  show some (_, (Q.push R).pop) = _
  rw [pop_push]

theorem AG.own {Q : Sig} {bx : List (List AV)} {tk : List (Option Nat)} {B : List (List AV)} {es : Nat} {xs : List (List AV)} {x : AV} {tks : List (Option Nat)} (hQ : Ok Q) (h : AG (Q.acts.length + 1) es xs x tks) :
    ∃ x' tk', ownResult ((Q.push ⟨bx, tk⟩).push ⟨B, tks⟩) x = some (x', Q.push ⟨bx, tk'⟩) ∧ AG Q.acts.length es xs x' tk' ∧ (∀ (g : Nat) (n : Option Nat), tk[g]? = some n → tk'[g]? = some n) := by
  rcases h with rfl | ⟨g, rfl, hg⟩
  · exact ⟨_, _, own_full, .inl rfl, fun _ _ h => h⟩
  · refine ⟨_, _, own_push hQ (R := ⟨bx, tk⟩) (r0 := ⟨B, tks⟩) hg, .inr ⟨tk.length, rfl, by simp⟩, fun g n h => ?_⟩
    rw [List.getElem?_append_left (List.getElem?_eq_some_iff.1 h).1]; exact h

end
end Go.Ax.Sx.Sc

namespace Go.Ax.Sx.Sc
open Go.Ax
set_option linter.unusedSimpArgs false
set_option linter.unusedVariables false
set_option maxRecDepth 100000

section
variable {s : Sig} {w : W}

theorem Wk.c (hw : Wk w) (h0 : (weekE w).2.2 = 0) : Wk (cW w) := ⟨cW_Ok, cW_Few hw.few, weekE_ok (by rw [weekE_c]; exact h0)⟩

end
end Go.Ax.Sx.Sc

namespace Go.Ax.Sx.Sc
open Go.Ax
set_option linter.unusedSimpArgs false
set_option linter.unusedVariables false
set_option maxRecDepth 100000

section
variable {s : Sig} {w : W}

end
end Go.Ax.Sx.Sc

namespace Go.Ax.Sx.Sc
open Go.Ax
set_option linter.unusedSimpArgs false
set_option linter.unusedVariables false
set_option maxRecDepth 100000

section
variable {s : Sig} {w : W}

end
end Go.Ax.Sx.Sc

namespace Go.Ax.Sx.Sc
open Go.Ax
set_option linter.unusedSimpArgs false
set_option linter.unusedVariables false
set_option maxRecDepth 100000

section
variable {s : Sig} {w : W}

theorem Ends.find {α ι : Type} {I : List α → ι → Prop} {st : α → Bool} {O : List α → α → ι → Prop} {i : ι} : ∀ {xs done : List α}, Ends I (fun _ x => st x) O done xs false i → ∃ x dn, xs.find? st = some x ∧ O dn x i
  | [], _, h => absurd h.1 (by decide)
  | x :: r, done, h => by
    simp only [Ends] at h
    cases hs : st x with
    | true => rw [if_pos hs] at h; exact ⟨x, done, by rw [List.find?_cons, hs], h.2⟩
    | false =>
      rw [if_neg (by rw [hs]; decide)] at h
      rw [List.find?_cons, hs]
      exact Ends.find h

end
end Go.Ax.Sx.Sc

namespace Go.Ax.Sx.Sc
open Go.Ax
set_option linter.unusedSimpArgs false
set_option linter.unusedVariables false
set_option maxRecDepth 100000

section
variable {s : Sig} {w : W}

end
end Go.Ax.Sx.Sc

namespace Go.Ax.Sx.Sc
open Go.Ax
set_option linter.unusedSimpArgs false
set_option linter.unusedVariables false
set_option maxRecDepth 100000

section
variable {s : Sig} {w : W}

theorem lastR_mem {l : List P} : lastR l = -1 ∨ ∃ p ∈ l, lastR l = p.req := by
  unfold lastR
  cases h : l.getLast? with
  | none => exact .inl rfl
  | some p => exact .inr ⟨p, List.mem_of_getLast? h, rfl⟩

theorem VP.chk (hw : Wk w) {R : List P} (h : VP w R) : chkE w R = (0, 0) ∧ PlOk R := by
  have hz : zs w [] R := zs_ix fun j x hj => by
    rw [List.nil_append]
    obtain ⟨a, b, hab⟩ : ∃ a b, R = a ++ x :: b ∧ a = R.take j := ⟨R.take j, R.drop (j + 1), by rw [← drop_get hj, List.take_append_drop], rfl⟩
    rw [← hab.2]
    have hR := hab.1
    have hxm : x ∈ R := List.mem_of_getElem? hj
    obtain ⟨h0, h1, hx⟩ := h.mem x hxm
    have hasc := h.asc
    have hnc := h.nc
    rw [hR, List.pairwise_append] at hasc hnc
    refine passE_poss hw h0 h1 hx ?_ ?_
    · rcases lastR_mem (l := a) with e | ⟨p, hp, e⟩
      · rw [e]; omega
      · rw [e]; exact hasc.2.2 p hp x (by simp)
    · exact confs_none.2 fun p hp => hnc.2.2 p hp x (by simp)
  refine ⟨chk_zs hz, by have := zs_max hw hz; omega, fun p hp => ?_⟩
  obtain ⟨h0, h1, hx⟩ := h.mem p hp
  obtain ⟨hpin, _, _, _, _, _, hsub, _⟩ := poss_in hw h0 h1 hx
  have hq := hw.few.an _ (W.rq_mem h0 h1)
  have := hsub.length_le
  exact ⟨hpin.ok, by omega⟩

end
end Go.Ax.Sx.Sc

namespace Go.Ax.Sx.Sc
open Go.Ax
set_option linter.unusedSimpArgs false
set_option linter.unusedVariables false
set_option maxRecDepth 100000

section
variable {s : Sig} {w : W}

end
end Go.Ax.Sx.Sc

namespace Go.Ax.Sx.Sc
open Go.Ax
set_option linter.unusedSimpArgs false
set_option linter.unusedVariables false
set_option maxRecDepth 100000

/-! ### Lists whose elements are written to -/

theorem appm_nil {s : Sig} {bs : List (List AV)} {tk : List (Option Nat)} {es : Nat} {o : Own} {row : List AV} : appendmOp (s.push ⟨bs, tk⟩) es (.slice .nilS 0 []) (.slice o es [row]) = some (.rsl s.acts.length bs.length 0 es 1 0, s.push ⟨bs ++ [row], tk⟩) := by
  simp [appendmOp, Own.isNil, most, cur_push, nbox_push, newBox_push]
theorem appm_grow {s : Sig} {bs : List (List AV)} {tk : List (Option Nat)} {es n b : Nat} {o : Own} {row r2 : List AV} (hb : bs[b]? = some row) (hl : row.length = n * es) (hn : 0 < n) (hm : n + 1 ≤ 4294967296) :
    appendmOp (s.push ⟨bs, tk⟩) es (.rsl s.acts.length b 0 es n 0) (.slice o es [r2]) = some (.rsl s.acts.length bs.length 0 es (n + 1) 0, s.push ⟨bs.set b [] ++ [row ++ r2], tk ++ [none]⟩) := by
  have hbox : (s.push ⟨bs, tk⟩).box s.acts.length b = some row := by rw [box_push]; exact hb
  have hreg : (s.push ⟨bs, tk⟩).regrow b (row ++ r2) = s.push ⟨bs.set b [] ++ [row ++ r2], tk ++ [none]⟩ := by
    unfold Sig.regrow
    rw [cur_push, onRec_push]
  simp [appendmOp, most, cur_push, nbox_push, hn, hm, hbox, hl, hreg]

theorem chunks_flat {es : Nat} : ∀ {xs : List (List AV)}, (∀ r ∈ xs, r.length = es) → chunks es xs.length xs.flatten = xs
  | [], _ => rfl
  | r :: xs, h => by
    have hr := h r (by simp)
    simp only [List.length_cons, chunks, List.flatten_cons]
    rw [List.take_left' hr, List.drop_left' hr, chunks_flat fun q hq => h q (List.mem_cons_of_mem _ hq)]

theorem len_rsl {d b off es n cap : Nat} : lenOp false (.rsl d b off es n cap) = some (I (n : Int)) := rfl
theorem ix_rsl {d b es n : Nat} {i : Nat} (h : i < n) : indexAddrOp none es (.rsl d b 0 es n 0) (I (i : Int)) = some (.ptr d b (0 + i * es)) := by
  have h1 : idx (I (i : Int)) n = some i := by simp [idx]; omega
  simp [indexAddrOp, h1]

section
variable {s : Sig} {w : W}

end
end Go.Ax.Sx.Sc

namespace Go.Ax.Sx.Sc
open Go.Ax
set_option linter.unusedSimpArgs false
set_option linter.unusedVariables false
set_option maxRecDepth 100000

/-! ### A plan whose elements may be written to -/

/-- passes, as they lie in one row -/
def flP (l : List P) : List AV := (l.map rowP).flatten
theorem flP_cons {p : P} {l : List P} : flP (p :: l) = rowP p ++ flP l := by simp [flP]
theorem flP_app {a b : List P} : flP (a ++ b) = flP a ++ flP b := by simp [flP]
theorem flP_len {l : List P} : (flP l).length = l.length * 3 := by
  induction l with
  | nil => rfl
  | cons p r ih => rw [flP_cons, List.length_append, ih]; simp only [rowP, List.length_cons, List.length_nil]; omega
theorem flP_part {l : List P} {k : Nat} {p : P} (h : l[k]? = some p) : cutN (0 + k * 3) 3 (flP l) = some (rowP p) := by
  obtain ⟨A, B, rfl, rfl⟩ : ∃ A B, l = A ++ p :: B ∧ A.length = k := by
    obtain ⟨hk, he⟩ := List.getElem?_eq_some_iff.1 h
    refine ⟨l.take k, l.drop (k + 1), ?_, by rw [List.length_take]; omega⟩
    rw [← he, List.getElem_cons_drop, List.take_append_drop]
  have hlen := flP_len (l := A ++ p :: B)
  rw [List.length_append, List.length_cons] at hlen
  rw [cutN_eq, if_pos (by omega), flP_app, flP_cons, Nat.zero_add, ← flP_len, List.drop_left]
  rfl

section
variable {s : Sig} {w : W}

theorem z_IndexFunc_V {l : List P} {d b : Nat} {g : FuncId} {caps : List AV} {p : P → Bool} (hb : s.box d b = some (flP l)) (hl : (l.length : Int) < 9223372036854775808)
    (hg : ∀ a ∈ l, ∀ r, callL AP (.fn g) (.agg (rowP a) :: caps) (s.push r) = some (B (p a), s.push r)) : callL AP (.fn 64) [.rsl d b 0 3 l.length 0, .fn g [] caps] s = some (I (findI p l), s) := by
  have key : ∀ k ρ m, k ≤ l.length → (ρ 0 = .rsl d b 0 3 l.length 0 ∧ ρ 1 = .fn g [] caps ∧ ρ 7 = I l.length ∧ ρ 8 = I k ∧ (∀ j y, j < k → l[j]? = some y → p y = false) ∧ m = s.push ⟨[], []⟩) → go AP f_z_IndexFunc_SchedulePass (.c (.loop b_z_IndexFunc_SchedulePass_l0) :: k_z_IndexFunc_SchedulePass_0) ⟨ρ, m⟩ = some (I (findI p l), s) := by
    refine loop_up l.length _ _ ?_ ?_
    · rintro k ρ m hk ⟨h0, h1, h7, h8, hp, rfl⟩ ih
      obtain ⟨a, ha⟩ := get_some hk
      have hr := ix_rsl (d := d) (b := b) (es := 3) hk
      have hpt := flP_part ha
      have hbk : ∀ r, (s.push r).box d b = some (flP l) := fun r => box_keep hb r
      simp (maxSteps := 1000000) only [go_sem, b_z_IndexFunc_SchedulePass_l0, h0, h1, h7, h8, lt_dec hk, hr, hbk, hpt, hg a (List.mem_of_getElem? ha), wrap_succ hk hl, Nat.reduceEqDiff, reduceCtorEq, ↓reduceIte]
      cases hpa : p a with
      | true =>
        simp only [cond_true]
        rw [findI_at ha hpa hp]
      | false =>
        simp only [cond_false]
        refine ih _ _ ?_
        refine ⟨h0, h1, h7, rfl, fun j y hj hy => ?_, rfl⟩
        by_cases e : j = k
        · subst e; rw [ha] at hy; injection hy with hy; rw [← hy]; exact hpa
        · exact hp j y (by omega) hy
    · rintro ρ m ⟨h0, h1, h7, h8, hp, rfl⟩
      simp (maxSteps := 1000000) only [go_sem, b_z_IndexFunc_SchedulePass_l0, b_z_IndexFunc_SchedulePass_r0, h7, h8, ge_dec, Int.reduceNeg, ↓reduceIte]
      rw [findI_no hp]
  rw [callL_go (show AP 64 = some c_z_IndexFunc_SchedulePass from rfl) rfl]
  simp (maxSteps := 1000000) only [go_sem, b_z_IndexFunc_SchedulePass, len_rsl, reduceCtorEq, ↓reduceIte]
  exact key 0 _ _ (Nat.zero_le _) ⟨rfl, rfl, rfl, rfl, fun j y hj => absurd hj (Nat.not_lt_zero _), rfl⟩
theorem z_ContainsFunc_V {l : List P} {d b : Nat} {g : FuncId} {caps : List AV} {p : P → Bool} (hb : s.box d b = some (flP l)) (hl : (l.length : Int) < 9223372036854775808)
    (hg : ∀ a ∈ l, ∀ r q, callL AP (.fn g) (.agg (rowP a) :: caps) ((s.push r).push q) = some (B (p a), (s.push r).push q)) : callL AP (.fn 79) [.rsl d b 0 3 l.length 0, .fn g [] caps] s = some (B (l.any p), s) := by
  have h := z_IndexFunc_V (s := s.push ⟨[], []⟩) (caps := caps) (g := g) (box_keep hb _) hl (fun a ha r => hg a ha _ r)
  rw [callL_go (show AP 79 = some c_z_ContainsFunc_SchedulePass from rfl) rfl]
  simp (maxSteps := 1000000) only [go_sem, b_z_ContainsFunc_SchedulePass, h, findI_nn, Nat.reduceEqDiff, reduceCtorEq, ↓reduceIte]

theorem w_conflicts_V {p : P} {l : List P} {d b : Nat} (hs : Ok s) (hw : Wk w) (hp : PIn w p) (hl : ∀ x ∈ l, PIn w x) (hb : s.box d b = some (flP l)) (hn : (l.length : Int) < 9223372036854775808) :
    callL AP (.fn 45) [OW w, .agg (rowP p), .rsl d b 0 3 l.length 0] s = some (B (confs w p l), s) := by
  have h : ∀ r, callL AP (.fn 79) [.rsl d b 0 3 l.length 0, .fn 80 [] [.ptr s.acts.length 0 0, .ptr s.acts.length 1 0]] (s.push ⟨[OW w] :: rowP p :: r, []⟩) = some (B (confs w p l), s.push ⟨[OW w] :: rowP p :: r, []⟩) := fun r =>
    z_ContainsFunc_V (box_keep hb _) hn fun a ha r q => w_conflicts_1 (((hs.push _).push _).push _) hw (hl a ha) hp (box_keep (box_keep box_at0 _) _) (box_keep (box_keep box_at1 _) _)
  rw [callL_go (show AP 45 = some c_w_conflicts from rfl) rfl]
  simp only [OW, rowP, Sl.v] at h ⊢
  simp (maxSteps := 1000000) only [go_sem, b_w_conflicts, h, Nat.reduceEqDiff, Nat.reduceAdd, ↓reduceIte]

theorem plc_round_V {X T : Rec → Sig} {l d : Nat} {ρ : Nat → AV} {r : Rec} {p : P} {pl : List P} {done : List P} {dp bp : Nat} (hM : Mid X d) (hX : ∀ r, busy l (T r) = X r) (hR : ∀ r, Ready l ⟨true, none, ρ, [12], b_w_placements_a0, b_w_placements_y0⟩ (T r)) (hok : ∀ r, Ok (T r)) (hw : Wk w) (hp : PIn w p) (hpl : ∀ x ∈ pl, PIn w x) (hlow : ∀ r, (X r).box dp bp = some (flP pl)) (hn : (pl.length : Int) < 9223372036854775808)
    (h3 : ρ 3 = .ptr d 0 0) (h4 : ρ 4 = .ptr d 1 0) (h7 : ρ 7 = .ptr d 2 0) (hd : done.length < 1000000)
    (hI : ∃ x og, r.boxes = [[OW w], [.rsl dp bp 0 3 pl.length 0], [x]] ∧ Acc d 3 ((done.filter fun x => !confs w x pl).map rowP) x og r.toks) :
    ∃ r', callL AP (.yield l) [.agg (rowP p)] (T r) = some (.v (.bool true), T r') ∧ ∃ x og, r'.boxes = [[OW w], [.rsl dp bp 0 3 pl.length 0], [x]] ∧ Acc d 3 (((done ++ [p]).filter fun x => !confs w x pl).map rowP) x og r'.toks := by
  obtain ⟨x, og, hb, hA⟩ := hI
  have hfin : ∀ r ρ' q, finR l .normal ⟨ρ', (X r).push q⟩ = some (.v (.bool true), T r) := fun r ρ' q => by rw [← hX]; exact finR_n (hR r)
  have hokX : ∀ r, Ok (X r) := fun r => by rw [← hX]; exact (hok r).busy
  have hTX : ∀ r, (T r).acts.length = (X r).acts.length := fun r => by rw [← hX]; rfl
  have k0 : ∀ q, ((X r).push q).box d 0 = some [OW w] := fun q => by rw [hM.box, hb]; rfl
  have k1 : ∀ q, ((X r).push q).box d 1 = some [.rsl dp bp 0 3 pl.length 0] := fun q => by rw [hM.box, hb]; rfl
  have k2 : ∀ q, ((X r).push q).box d 2 = some [x] := fun q => by rw [hM.box, hb]; rfl
  have hc : ∀ q, callL AP (.fn 45) [OW w, .agg (rowP p), .rsl dp bp 0 3 pl.length 0] ((X r).push q) = some (B (confs w p pl), (X r).push q) := fun q => w_conflicts_V ((hokX r).push q) hw hp hpl (box_keep (hlow r) q) hn
  have hlen : (done.filter fun x => !confs w x pl).length ≤ done.length := List.length_filter_le _ _
  have hpc : closeAll (rowP p) = some (rowP p) := by
    simp only [rowP, closeAll_cons, closeAll_nil, close_int, Sl.close hp.ok]; rfl
  rw [callL_round (hR r) rfl]
  simp only [rowP, Sl.v] at hc hpc ⊢
  cases hcf : confs w p pl with
  | true =>
    rw [hcf] at hc
    refine ⟨r, ?_, x, og, hb, ?_⟩
    · simp (maxSteps := 1000000) only [go_sem, b_w_placements_a0, finA_n (hR r), hok r, setParams_1, Nat.reduceEqDiff, ↓reduceIte]
      simp (maxSteps := 1000000) only [go_sem, b_w_placements_y0, hX, hTX, h3, h4, k0, k1, hc, hfin, Nat.reduceEqDiff, ↓reduceIte]
    · rw [List.filter_append]
      simpa [hcf] using hA
  | false =>
    rw [hcf] at hc
    obtain ⟨x1, m1, r0', x', og', tk', a1, a2, a3, a4, a5, a6⟩ := hM.append (r0 := ⟨[rowP p], []⟩) hA .full (ys := [rowP p]) (by simp) (by simp; omega) (b := 2) (by rw [hb]; simp) ⟨x, by rw [hb]; rfl⟩
    refine ⟨⟨r.boxes.set 2 [x'], tk'⟩, ?_, x', og', ?_, ?_⟩
    · simp only [rowP, Sl.v] at a1 a2
      simp (maxSteps := 1000000) only [go_sem, b_w_placements_a0, finA_n (hR r), hok r, setParams_1, Nat.reduceEqDiff, ↓reduceIte]
      simp (maxSteps := 1000000) only [go_sem, b_w_placements_y0, hX, hTX, h3, h4, h7, k0, k1, k2, hc, hfin, hpc, a1, a2, Nat.reduceEqDiff, ↓reduceIte]
    · rw [hb]; rfl
    · rw [List.filter_append, List.map_append]
      have : List.map rowP (List.filter (fun x => !confs w x pl) [p]) = [rowP p] := by simp [hcf]
      rw [this]; exact a4

theorem low_loop {d b l : Nat} {cs : List AV} {lp : ALoop} {B : List Rec} {ls : List ALoop} {r : Rec} (h : s.box d b = some cs) : (up (busy l (enterLoop (s.push r) lp)) B ls).box d b = some cs := by
  have hd : d < s.acts.length := by
    apply Classical.byContradiction
    intro hn
    rw [Sig.box, List.getElem?_eq_none (by omega)] at h; simp at h
  have hd2 : d < (s.acts ++ [r]).length := by simp; omega
  simp only [Sig.box, up, busy, setLoop, enterLoop, Sig.push] at h ⊢
  rw [List.getElem?_append_left hd2, List.getElem?_append_left hd]; exact h

theorem plc_hand_V {ρ : Nat → AV} {pl : List P} {dp bp : Nat} (hs : Ok s) (hw : Wk w) (hpl : ∀ x ∈ pl, PIn w x) (hb : s.box dp bp = some (flP pl)) (hn : (pl.length : Int) < 9223372036854775808)
    (h3 : ρ 3 = .ptr s.acts.length 0 0) (h4 : ρ 4 = .ptr s.acts.length 1 0) (h7 : ρ 7 = .ptr s.acts.length 2 0) :
    Hand AP s.loops.length (fun p => .agg (rowP p)) (plcB s ρ) (fun done r => ∃ x og, r.boxes = [[OW w], [.rsl dp bp 0 3 pl.length 0], [x]] ∧ Acc s.acts.length 3 ((done.filter fun x => !confs w x pl).map rowP) x og r.toks)
      (fun _ _ => false) (fun _ _ _ => False) (PIn w) (s.acts.length + 1) (s.loops.length + 1) 100000 := by
  refine ⟨fun r => (hs.push _).enter, fun r => by simp [plcB, enterLoop, Sig.push], fun r => by simp [plcB, enterLoop, Sig.push], ?_, fun _ _ _ _ _ _ _ _ h => by cases h⟩
  intro done p r B ls hd hI hp _
  have hM : Mid (fun r => up (busy s.loops.length (enterLoop (s.push r) ⟨true, none, ρ, [12], b_w_placements_a0, b_w_placements_y0⟩)) B ls) s.acts.length := mid_loop hs
  have hX : ∀ r, busy s.loops.length (up (plcB s ρ r) B ls) = (fun r => up (busy s.loops.length (enterLoop (s.push r) ⟨true, none, ρ, [12], b_w_placements_a0, b_w_placements_y0⟩)) B ls) r := fun r => up_busy (by simp [enterLoop, Sig.push])
  exact plc_round_V (T := fun r => up (plcB s ρ r) B ls) hM hX (fun r => up_ready (enter_ready (hs.push r))) (fun r => ((hs.push _).enter).up) hw hp hpl (fun r => low_loop hb) hn h3 h4 h7 (by omega) hI

/-- the passes that a request may have beside others -/
theorem w_placements_V {pl : List P} {dp bp : Nat} {i : Int} (hs : Ok s) (hw : Wk w) (hpl : ∀ x ∈ pl, PIn w x) (hbx : s.box dp bp = some (flP pl)) (hn : (pl.length : Int) < 9223372036854775808) (h0 : 0 ≤ i) (h1 : i < w.rs.l.length) :
    callL AP (.fn 23) [OW w, .rsl dp bp 0 3 pl.length 0, I i] s = some (accV 3 ((plcs w pl i).map rowP), s) := by
  have key : ∀ ρ : Nat → AV, ρ 3 = .ptr s.acts.length 0 0 → ρ 4 = .ptr s.acts.length 1 0 → ρ 7 = .ptr s.acts.length 2 0 → ρ 11 = .fn 76 [] [.eptr [OW w] 0, .eptr [I i] 0] →
      go AP f_w_placements (.c (.rangeFunc (.tmp 11) [12] b_w_placements_a0 b_w_placements_y0) :: .blk 0 :: [.c b_w_placements_r0]) ⟨ρ, s.push ⟨[[OW w], [.rsl dp bp 0 3 pl.length 0], [.slice .nilS 0 []]], []⟩⟩ = some (accV 3 ((plcs w pl i).map rowP), s) := by
    intro ρ h3 h4 h7 h11
    obtain ⟨b, r', hc, hE⟩ := poss_calls (plc_hand_V hs hw hpl hbx hn h3 h4 h7) hw h0 h1 (i := ⟨[[OW w], [.rsl dp bp 0 3 pl.length 0], [.slice .nilS 0 []]], []⟩) (done := []) (by have := poss_count hw h0 h1; simp; omega) ⟨_, none, rfl, Acc.start⟩ (fun p hp => (poss_in hw h0 h1 hp).1)
    obtain ⟨rfl, x, og, hb, hA⟩ := hE.never (fun _ _ => rfl)
    rw [go_range (x := .tmp 11) h11]
    refine (congrArg (Option.bind · _) hc).trans ?_
    simp only [Option.bind_some]
    refine (goL_normal (m := s.push r') (lp := ⟨true, none, ρ, [12], b_w_placements_a0, b_w_placements_y0⟩) rfl rfl rfl).trans ?_
    obtain ⟨bx, tk⟩ := r'
    simp only at hb hA
    subst hb
    have hA' : Acc s.acts.length 3 ((plcs w pl i).map rowP) x og tk := hA
    simp (maxSteps := 1000000) only [go_sem, b_w_placements_r0, h7, hA'.leave, ↓reduceIte]
  have hp : ∀ r, callL AP (.fn 44) [OW w, I i] (s.push r) = some (.fn 76 [] [.eptr [OW w] 0, .eptr [I i] 0], s.push r) := fun r => w_possible (hs.push r)
  rw [callL_go (show AP 23 = some c_w_placements from rfl) rfl]
  simp only [OW] at key hp ⊢
  simp (maxSteps := 1000000) only [go_sem, b_w_placements, hp, Nat.reduceEqDiff, Nat.reduceAdd, ↓reduceIte]
  exact key _ rfl rfl rfl rfl
end
end Go.Ax.Sx.Sc

namespace Go.Ax.Sx.Sc
open Go.Ax
set_option linter.unusedSimpArgs false
set_option linter.unusedVariables false
set_option maxRecDepth 100000

/-! ### Insertion -/
section
variable {α : Type}
/-- an element goes down below the later ones (the earlier ones: the last first) -/
def insP (c : α → α → Int) : List α → α → List α → List α
  | [], x, B => x :: B
  | a :: A, x, B => if c x a < 0 then insP c A x (a :: B) else (a :: A).reverse ++ x :: B
def isort (c : α → α → Int) (l : List α) : List α := l.foldl (fun acc x => insP c acc.reverse x []) []
theorem insP_perm {c : α → α → Int} : ∀ {A : List α} {x : α} {B : List α}, (insP c A x B).Perm (A.reverse ++ x :: B)
  | [], _, _ => List.Perm.refl _
  | a :: A, x, B => by
    simp only [insP]
    split
    · refine insP_perm.trans ?_
      rw [List.reverse_cons, List.append_assoc]
      exact List.Perm.append_left _ (List.Perm.swap _ _ _)
    · exact List.Perm.refl _
theorem isort_snoc {c : α → α → Int} {l : List α} {x : α} : isort c (l ++ [x]) = insP c (isort c l).reverse x [] := by
  unfold isort; rw [List.foldl_append]; rfl
theorem isort_perm {c : α → α → Int} {l : List α} : (isort c l).Perm l := by
  have key : ∀ (r l : List α), (r.foldl (fun acc x => insP c acc.reverse x []) l).Perm (l ++ r) := by
    intro r
    induction r with
    | nil => intro l; rw [List.append_nil]; exact List.Perm.refl _
    | cons x r ih =>
      intro l
      rw [List.foldl_cons]
      refine (ih _).trans ?_
      rw [show l ++ x :: r = (l ++ [x]) ++ r by simp]
      refine List.Perm.append_right _ ?_
      have := insP_perm (c := c) (A := l.reverse) (x := x) (B := [])
      rwa [List.reverse_reverse] at this
  exact key l []
theorem isort_len {c : α → α → Int} {l : List α} : (isort c l).length = l.length := isort_perm.length_eq

theorem insP_sorted {c : α → α → Int} {R : α → α → Prop} (tr : ∀ a b d, R a b → R b d → R a d) : ∀ {A : List α} {x : α} {B : List α},
    (A.reverse ++ B).Pairwise R → (∀ b ∈ B, R x b) → (∀ a ∈ A, c x a < 0 → R x a) → (∀ a ∈ A, ¬ c x a < 0 → R a x) → (insP c A x B).Pairwise R
  | [], x, B, h, hB, _, _ => by
    simp only [insP]
    exact List.pairwise_cons.2 ⟨hB, by simpa using h⟩
  | a :: A, x, B, h, hB, h1, h2 => by
    simp only [insP]
    split
    · rename_i hc
      refine insP_sorted tr ?_ ?_ (fun y hy => h1 y (List.mem_cons_of_mem _ hy)) fun y hy => h2 y (List.mem_cons_of_mem _ hy)
      · rw [List.reverse_cons, List.append_assoc] at h; exact h
      · intro y hy
        rcases List.mem_cons.1 hy with rfl | hy
        · exact h1 _ (by simp) hc
        · exact hB y hy
    · rename_i hc
      have hax := h2 a (by simp) hc
      rw [List.pairwise_append] at h ⊢
      obtain ⟨p1, p2, p3⟩ := h
      refine ⟨p1, List.pairwise_cons.2 ⟨hB, p2⟩, ?_⟩
      intro y hy z hz
      have hyx : R y x := by
        rw [List.reverse_cons, List.mem_append] at hy
        rcases hy with hy | hy
        · rw [List.reverse_cons, List.pairwise_append] at p1
          exact tr _ _ _ (p1.2.2 y hy a (by simp)) hax
        · rw [List.mem_singleton] at hy; rw [hy]; exact hax
      rcases List.mem_cons.1 hz with rfl | hz
      · exact hyx
      · exact p3 y hy z hz
theorem isort_sorted {c : α → α → Int} {R : α → α → Prop} (tr : ∀ a b d, R a b → R b d → R a d) {l : List α}
    (h : l.Pairwise fun a x => (c x a < 0 → R x a) ∧ (¬ c x a < 0 → R a x)) : (isort c l).Pairwise R := by
  have key : ∀ n, n ≤ l.length → (isort c (l.take n)).Pairwise R := by
    intro n
    induction n with
    | zero => intro _; rw [List.take_zero]; exact List.Pairwise.nil
    | succ n ih =>
      intro hn
      obtain ⟨x, hx⟩ := get_some (l := l) (k := n) (by omega)
      rw [take_get hx, isort_snoc]
      have hlt : l = l.take n ++ x :: l.drop (n + 1) := by
        obtain ⟨hk, he⟩ := List.getElem?_eq_some_iff.1 hx
        rw [← he, List.getElem_cons_drop, List.take_append_drop]
      have hp : ∀ a ∈ l.take n, (c x a < 0 → R x a) ∧ (¬ c x a < 0 → R a x) := fun a ha => by
        have h2 := h
        rw [hlt] at h2
        exact (List.pairwise_append.1 h2).2.2 a ha x (by simp)
      have hm : ∀ a, a ∈ (isort c (l.take n)).reverse → a ∈ l.take n := fun a ha => (isort_perm.mem_iff).1 (List.mem_reverse.1 ha)
      refine insP_sorted tr ?_ (by simp) (fun a ha => (hp a (hm a ha)).1) fun a ha => (hp a (hm a ha)).2
      rw [List.reverse_reverse, List.append_nil]; exact ih (by omega)
  have := key l.length (Nat.le_refl _)
  rwa [List.take_length] at this
/-- A permutation that ascends is the only one. -/
theorem sorted_unique {R : α → α → Prop} (as : ∀ a b, R a b → R b a → False) : ∀ {l m : List α}, l.Perm m → l.Pairwise R → m.Pairwise R → l = m
  | [], m, h, _, _ => (List.nil_perm.1 h).symm
  | a :: l, [], h, _, _ => absurd (List.Perm.eq_nil h) (by simp)
  | a :: l, b :: m, h, h1, h2 => by
    obtain ⟨p1, p2⟩ := List.pairwise_cons.1 h1
    obtain ⟨q1, q2⟩ := List.pairwise_cons.1 h2
    have hab : a = b := by
      rcases List.mem_cons.1 (h.mem_iff.1 (List.mem_cons_self (a := a) (l := l))) with e | e
      · exact e
      · rcases List.mem_cons.1 (h.mem_iff.2 (List.mem_cons_self (a := b) (l := m))) with e2 | e2
        · exact e2.symm
        · exact absurd (p1 b e2) (fun r => as _ _ r (q1 a e))
    subst hab
    rw [sorted_unique as ((List.perm_cons a).1 h) p2 q2]
end

/-! ### A state seen by one box of an activation further down -/
structure Cell (X : List AV → Sig) (d b : Nat) : Prop where
  box : ∀ r, (X r).box d b = some r
  set : ∀ r r', (X r).setBox d b r' = X r'
  ro : ∀ r, (X r).ro ≤ d
  ok : ∀ r, Ok (X r)
section
variable {X : List AV → Sig} {d b : Nat}
theorem Cell.lt (h : Cell X d b) (r : List AV) : d < (X r).acts.length := by
  apply Classical.byContradiction
  intro hn
  have := h.box r
  rw [Sig.box, List.getElem?_eq_none (by omega)] at this; simp at this
theorem Cell.push (h : Cell X d b) (q : Rec) : Cell (fun r => (X r).push q) d b := by
  refine ⟨fun r => box_keep (h.box r) q, fun r r' => ?_, h.ro, fun r => (h.ok r).push q⟩
  rw [← h.set r r']
  have := h.lt r
  simp only [Sig.setBox, Sig.onRec, Sig.push, modify_app this]
theorem Cell.store (h : Cell X d b) {q : Rec} {row : List AV} {off n : Nat} {y : AV} (hc : y.cells.all AV.isCell = true) (hf : ((X row).push q).fitAll d y.cells = some (y.cells, (X row).push q)) (hn : y.cells.length = n) (ho : off + n ≤ row.length) :
    ((X row).push q).store n (.ptr d b off) y = some ((X (setCells row off y.cells)).push q) := by
  have hlt := h.lt row
  have hne : ¬ d = ((X row).push q).cur := by rw [cur_push]; omega
  have hro : ((X row).push q).ro ≤ d := h.ro row
  have hbx : ((X row).push q).box d b = some row := (h.push q).box row
  have hst : ((X row).push q).setBox d b (setCells row off y.cells) = (X (setCells row off y.cells)).push q := (h.push q).set row (setCells row off y.cells)
  simp only [Sig.store, hro, hn, hc, and_self, if_true, hne, if_false, hf, hbx, ho, hst]
end
theorem setCells_mid {P Q R ys : List AV} (h : Q.length = ys.length) : setCells (P ++ (Q ++ R)) P.length ys = P ++ (ys ++ R) := by
  induction Q generalizing P ys with
  | nil =>
    cases ys with
    | nil => rfl
    | cons y t => simp at h
  | cons x q ih =>
    cases ys with
    | nil => simp at h
    | cons y t =>
      simp only [setCells, List.cons_append]
      rw [set_len]
      have := ih (P := P ++ [y]) (ys := t) (by simpa using h)
      simp only [List.length_append, List.length_cons, List.length_nil, List.append_assoc, List.cons_append, List.nil_append, Nat.zero_add] at this
      exact this

/-! ### Insertion sort of numbers -/
section
variable {s : Sig} {X : List AV → Sig} {d b : Nat}
def flI (l : List Int) : List AV := l.map fun x => I x
theorem flI_len {l : List Int} : (flI l).length = l.length := by simp [flI]

theorem z_insertionSort_int {l : List Int} {g : FuncId} {caps : List AV} {c : Int → Int → Int} {S : Int → Prop} (hX : Cell X d b) (hl : l.length < 1000000) (hS : ∀ x ∈ l, S x)
    (hg : ∀ x y, S x → S y → ∀ row q, callL AP (.fn g) (I x :: I y :: caps) ((X row).push q) = some (I (c x y), (X row).push q)) :
    callL AP (.fn 74) [.rsl d b 0 1 l.length 0, I 0, I l.length, .fn g [] caps] (X (flI l)) = some (.tuple [], X (flI (isort c l))) := by
  have key : ∀ (k : Nat) ρ m, k ≤ l.length → (0 < k ∧ ρ 0 = .rsl d b 0 1 l.length 0 ∧ ρ 1 = I 0 ∧ ρ 2 = I l.length ∧ ρ 3 = .fn g [] caps ∧ ρ 8 = I k ∧ m = (X (flI (isort c (l.take k) ++ l.drop k))).push ⟨[], []⟩) →
      go AP f_z_insertionSortCmpFunc_int (.c (.loop b_z_insertionSortCmpFunc_int_l0) :: k_z_insertionSortCmpFunc_int_0) ⟨ρ, m⟩ = some (.tuple [], X (flI (isort c l))) := by
    refine loop_up l.length _ _ ?_ ?_
    · rintro k ρ m hk ⟨hk0, h0, h1, h2, h3, h8, rfl⟩ ih
      obtain ⟨x, hx⟩ := get_some hk
      have hdr : l.drop k = x :: l.drop (k + 1) := by
        obtain ⟨hk', he⟩ := List.getElem?_eq_some_iff.1 hx
        rw [← he, List.getElem_cons_drop]
      have hwk := wrap_succ hk (show (l.length : Int) < _ by omega)
      have hnx : isort c (l.take (k + 1)) = insP c (isort c (l.take k)).reverse x [] := by rw [take_get hx, isort_snoc]
      have hxS := hS x (List.mem_of_getElem? hx)
      have hmem : ∀ a ∈ (isort c (l.take k)).reverse, S a := fun a ha => hS a (List.mem_of_mem_take ((isort_perm.mem_iff).1 (List.mem_reverse.1 ha)))
      have hlen : (isort c (l.take k)).reverse.length = k := by rw [List.length_reverse, isort_len, List.length_take]; omega
      have inner : ∀ (A B : List Int) ρ m, (∀ a ∈ A, S a) → A.length + B.length = k → insP c A x B = isort c (l.take (k + 1)) → (ρ 0 = .rsl d b 0 1 l.length 0 ∧ ρ 1 = I 0 ∧ ρ 2 = I l.length ∧ ρ 3 = .fn g [] caps ∧ ρ 8 = I k ∧ ρ 9 = I A.length ∧ m = (X (flI (A.reverse ++ x :: (B ++ l.drop (k + 1))))).push ⟨[], []⟩) →
          go AP f_z_insertionSortCmpFunc_int (.c (.loop b_z_insertionSortCmpFunc_int_l1) :: k_z_insertionSortCmpFunc_int_1) ⟨ρ, m⟩ = some (.tuple [], X (flI (isort c l))) := by
        intro A
        induction A with
        | nil =>
          rintro B ρ m _ hAB hins ⟨h0, h1, h2, h3, h8, h9, rfl⟩
          have hp : decide ((0 : Int) < 0) = false := rfl
          have h9 : ρ 9 = I 0 := h9
          rw [go_loop]
          simp only [insP] at hins
          rw [show ([] : List Int).reverse ++ x :: (B ++ l.drop (k + 1)) = isort c (l.take (k + 1)) ++ l.drop (k + 1) by rw [← hins]; rfl]
          generalize flI (isort c (l.take (k + 1)) ++ l.drop (k + 1)) = Z at *
          simp (maxSteps := 1000000) only [go_sem, b_z_insertionSortCmpFunc_int_l1, b_z_insertionSortCmpFunc_int_r0, h1, h8, h9, hwk, Nat.reduceEqDiff, Int.reduceLT, ↓reduceIte]
          refine ih _ _ ?_
          exact ⟨by omega, h0, h1, h2, h3, rfl, rfl⟩
        | cons a A ihA =>
          rintro B ρ m hA hAB hins ⟨h0, h1, h2, h3, h8, h9, rfl⟩
          have hp : decide ((0 : Int) < (((a :: A).length : Nat) : Int)) = true := decide_eq_true (by simp)
          rw [go_loop]
          rw [List.length_cons] at hAB h9 hp
          have hsub : IntKind.i64.wrap (((A.length + 1 : Nat) : Int) - 1) = (A.length : Int) := by rw [wrap_id (by omega) (by omega)]; omega
          have hix1 := ix_rsl (d := d) (b := b) (es := 1) (i := A.length + 1) (n := l.length) (by omega)
          have hix0 := ix_rsl (d := d) (b := b) (es := 1) (i := A.length) (n := l.length) (by omega)
          have hgc := hg x a hxS (hA a (by simp))
          have hrow : flI ((a :: A).reverse ++ x :: (B ++ l.drop (k + 1))) = flI A.reverse ++ ([I a] ++ ([I x] ++ flI (B ++ l.drop (k + 1)))) := by simp [flI]
          have hal : (flI A.reverse).length = A.length := by rw [flI_len, List.length_reverse]
          have hbx := fun q => (hX.push q).box (flI A.reverse ++ ([I a] ++ ([I x] ++ flI (B ++ l.drop (k + 1)))))
          have hg0 : (flI A.reverse ++ ([I a] ++ ([I x] ++ flI (B ++ l.drop (k + 1)))))[0 + A.length * 1]? = some (I a) := by
            rw [show 0 + A.length * 1 = A.length by omega, ← hal]; exact at_len
          have hg1 : (flI A.reverse ++ ([I a] ++ ([I x] ++ flI (B ++ l.drop (k + 1)))))[0 + (A.length + 1) * 1]? = some (I x) := by
            rw [show 0 + (A.length + 1) * 1 = A.length + 1 by omega, ← hal]; exact at_len1
          rw [hrow]
          have hst : ∀ (q : Rec) (row : List AV) (off : Nat) (v : Int), off + 1 ≤ row.length → ((X row).push q).store 1 (.ptr d b off) (I v) = some ((X (setCells row off [I v])).push q) := fun q row off v ho => hX.store rfl (fitAll_closed rfl) rfl ho
          have hs1 := fun q => hst q (flI A.reverse ++ ([I a] ++ ([I x] ++ flI (B ++ l.drop (k + 1))))) (0 + (A.length + 1) * 1) a (by simp only [List.length_append, hal, List.length_cons, List.length_nil]; omega)
          rw [show setCells (flI A.reverse ++ ([I a] ++ ([I x] ++ flI (B ++ l.drop (k + 1))))) (0 + (A.length + 1) * 1) [I a] = flI A.reverse ++ ([I a] ++ ([I a] ++ flI (B ++ l.drop (k + 1)))) by
            have := setCells_mid (P := flI A.reverse ++ [I a]) (Q := [I x]) (R := flI (B ++ l.drop (k + 1))) (ys := [I a]) rfl
            rw [List.length_append, hal, List.append_assoc, List.append_assoc] at this
            rw [show 0 + (A.length + 1) * 1 = A.length + [I a].length by simp]; exact this] at hs1
          have hs2 := fun q => hst q (flI A.reverse ++ ([I a] ++ ([I a] ++ flI (B ++ l.drop (k + 1))))) (0 + A.length * 1) x (by simp only [List.length_append, hal, List.length_cons, List.length_nil]; omega)
          rw [show setCells (flI A.reverse ++ ([I a] ++ ([I a] ++ flI (B ++ l.drop (k + 1))))) (0 + A.length * 1) [I x] = flI (A.reverse ++ x :: (a :: B ++ l.drop (k + 1))) by
            have := setCells_mid (P := flI A.reverse) (Q := [I a]) (R := [I a] ++ flI (B ++ l.drop (k + 1))) (ys := [I x]) rfl
            rw [hal] at this
            rw [show 0 + A.length * 1 = A.length by omega, this]; simp [flI]] at hs2
          rcases Decidable.em (c x a < 0) with hc | hc
          · have hd : decide (c x a < 0) = true := decide_eq_true hc
            have hih := ihA (a :: B)
            generalize flI (A.reverse ++ x :: (a :: B ++ l.drop (k + 1))) = Z3 at hs2 hih
            generalize flI A.reverse ++ ([I a] ++ ([I a] ++ flI (B ++ l.drop (k + 1)))) = Z2 at hs1 hs2
            generalize flI A.reverse ++ ([I a] ++ ([I x] ++ flI (B ++ l.drop (k + 1)))) = Z1 at hbx hg0 hg1 hs1
            simp (maxSteps := 1000000) only [go_sem, b_z_insertionSortCmpFunc_int_l1, h0, h1, h3, h9, hp, hsub, hix0, hix1, hbx, hg0, hg1, hgc, hd, hs1, hs2, Nat.reduceEqDiff, reduceCtorEq, ↓reduceIte]
            refine hih _ _ (fun y hy => hA y (List.mem_cons_of_mem _ hy)) (by rw [List.length_cons]; omega) ?_ ?_
            · simp only [insP] at hins; rwa [if_pos hc] at hins
            · exact ⟨h0, h1, h2, h3, h8, rfl, rfl⟩
          · have hd : decide (c x a < 0) = false := decide_eq_false hc
            simp only [insP] at hins
            rw [if_neg hc] at hins
            have hz : flI A.reverse ++ ([I a] ++ ([I x] ++ flI (B ++ l.drop (k + 1)))) = flI (isort c (l.take (k + 1)) ++ l.drop (k + 1)) := by
              rw [← hins, ← hrow]; simp
            generalize flI (isort c (l.take (k + 1)) ++ l.drop (k + 1)) = Z3 at hz ih
            generalize flI A.reverse ++ ([I a] ++ ([I x] ++ flI (B ++ l.drop (k + 1)))) = Z1 at hbx hg0 hg1 hs1 hz
            subst hz
            simp (maxSteps := 1000000) only [go_sem, b_z_insertionSortCmpFunc_int_l1, b_z_insertionSortCmpFunc_int_r0, h0, h1, h3, h8, h9, hp, hsub, hix0, hix1, hbx, hg0, hg1, hgc, hd, hwk, Nat.reduceEqDiff, reduceCtorEq, ↓reduceIte]
            refine ih _ _ ?_
            exact ⟨by omega, h0, h1, h2, h3, rfl, rfl⟩
      have hZ : flI (isort c (l.take k) ++ l.drop k) = flI ((isort c (l.take k)).reverse.reverse ++ x :: ([] ++ l.drop (k + 1))) := by
        rw [List.reverse_reverse, List.nil_append, ← hdr]
      have hin := inner (isort c (l.take k)).reverse []
      rw [← hZ, hlen] at hin
      generalize flI (isort c (l.take k) ++ l.drop k) = Z at hin
      simp (maxSteps := 1000000) only [go_sem, b_z_insertionSortCmpFunc_int_l0, h2, h8, lt_dec hk, Nat.reduceEqDiff, ↓reduceIte]
      refine hin _ _ hmem (by simp) hnx.symm ?_
      exact ⟨h0, h1, h2, h3, h8, rfl, rfl⟩
    · rintro ρ m ⟨hk0, h0, h1, h2, h3, h8, rfl⟩
      rw [List.take_length, List.drop_length, List.append_nil]
      simp (maxSteps := 1000000) only [go_sem, b_z_insertionSortCmpFunc_int_l0, h2, h8, ge_dec, Nat.reduceEqDiff, ↓reduceIte]
  have hw1 : IntKind.i64.wrap (0 + 1) = ((1 : Nat) : Int) := rfl
  cases l with
  | nil =>
    have hd : decide ((1 : Int) < 0) = false := rfl
    have hw0 : IntKind.i64.wrap (0 + 1) = 1 := rfl
    rw [callL_go (show AP 74 = some c_z_insertionSortCmpFunc_int from rfl) rfl]
    simp (maxSteps := 1000000) only [go_sem, b_z_insertionSortCmpFunc_int, List.length_nil, Int.reduceLT, Int.reduceLE, Int.reduceAdd, Int.reduceNeg, Int.cast_ofNat_Int, ↓reduceIte]
    rw [go_loop]
    simp (maxSteps := 1000000) only [go_sem, b_z_insertionSortCmpFunc_int_l0, Nat.reduceEqDiff, Int.reduceLT, ↓reduceIte]
    rfl
  | cons y r =>
    have hkey := key 1
    have e1 : flI (isort c ((y :: r).take 1) ++ (y :: r).drop 1) = flI (y :: r) := rfl
    rw [e1] at hkey
    generalize hl' : y :: r = l at *
    rw [callL_go (show AP 74 = some c_z_insertionSortCmpFunc_int from rfl) rfl]
    simp (maxSteps := 1000000) only [go_sem, b_z_insertionSortCmpFunc_int, Int.reduceLT, Int.reduceLE, Int.reduceAdd, Int.reduceNeg, ↓reduceIte]
    refine hkey _ _ (by rw [← hl']; simp) ?_
    exact ⟨by decide, rfl, rfl, rfl, rfl, rfl, rfl⟩
end
end Go.Ax.Sx.Sc

namespace Go.Ax.Sx.Sc
open Go.Ax
set_option linter.unusedSimpArgs false
set_option linter.unusedVariables false
set_option maxRecDepth 100000

theorem rowP_cell {p : P} (h : p.an.ok 1) : (rowP p).all AV.isCell = true := rfl
theorem rowP_fit {p : P} {m : Sig} {d : Nat} (h : p.an.ok 1) : m.fitAll d (rowP p) = some (rowP p, m) := by
  refine fitAll_closed ?_
  rcases h.2 with h | h | h <;> simp [rowP, Sl.v, AV.isClosed, AV.isClosed1, h]

/-! ### Insertion sort of passes -/
section
variable {s : Sig} {X : List AV → Sig} {d b : Nat}

theorem z_insertionSort_P {l : List P} {g : FuncId} {caps : List AV} {c : P → P → Int} {S : P → Prop} (hX : Cell X d b) (hl : l.length < 1000000) (hS : ∀ x ∈ l, S x) (hcl : ∀ x, S x → x.an.ok 1) {D : P → P → Prop} (hD : l.Pairwise fun a x => D x a)
    (hg : ∀ x y, D x y → ∀ row q, callL AP (.fn g) (.agg (rowP x) :: .agg (rowP y) :: caps) ((X row).push q) = some (I (c x y), (X row).push q)) :
    callL AP (.fn 82) [.rsl d b 0 3 l.length 0, I 0, I l.length, .fn g [] caps] (X (flP l)) = some (.tuple [], X (flP (isort c l))) := by
  have key : ∀ (k : Nat) ρ m, k ≤ l.length → (0 < k ∧ ρ 0 = .rsl d b 0 3 l.length 0 ∧ ρ 1 = I 0 ∧ ρ 2 = I l.length ∧ ρ 3 = .fn g [] caps ∧ ρ 8 = I k ∧ m = (X (flP (isort c (l.take k) ++ l.drop k))).push ⟨[], []⟩) →
      go AP f_z_insertionSortCmpFunc_SchedulePass (.c (.loop b_z_insertionSortCmpFunc_SchedulePass_l0) :: k_z_insertionSortCmpFunc_SchedulePass_0) ⟨ρ, m⟩ = some (.tuple [], X (flP (isort c l))) := by
    refine loop_up l.length _ _ ?_ ?_
    · rintro k ρ m hk ⟨hk0, h0, h1, h2, h3, h8, rfl⟩ ih
      obtain ⟨x, hx⟩ := get_some hk
      have hdr : l.drop k = x :: l.drop (k + 1) := by
        obtain ⟨hk', he⟩ := List.getElem?_eq_some_iff.1 hx
        rw [← he, List.getElem_cons_drop]
      have hwk := wrap_succ hk (show (l.length : Int) < _ by omega)
      have hnx : isort c (l.take (k + 1)) = insP c (isort c (l.take k)).reverse x [] := by rw [take_get hx, isort_snoc]
      have hxS := hS x (List.mem_of_getElem? hx)
      have hmem : ∀ a ∈ (isort c (l.take k)).reverse, S a ∧ D x a := fun a ha => by
        have ha' := (isort_perm.mem_iff).1 (List.mem_reverse.1 ha)
        refine ⟨hS a (List.mem_of_mem_take ha'), ?_⟩
        have h2 := hD
        rw [← List.take_append_drop k l, hdr] at h2
        exact (List.pairwise_append.1 h2).2.2 a ha' x (by simp)
      have hlen : (isort c (l.take k)).reverse.length = k := by rw [List.length_reverse, isort_len, List.length_take]; omega
      have inner : ∀ (A B : List P) ρ m, (∀ a ∈ A, S a ∧ D x a) → A.length + B.length = k → insP c A x B = isort c (l.take (k + 1)) → (ρ 0 = .rsl d b 0 3 l.length 0 ∧ ρ 1 = I 0 ∧ ρ 2 = I l.length ∧ ρ 3 = .fn g [] caps ∧ ρ 8 = I k ∧ ρ 9 = I A.length ∧ m = (X (flP (A.reverse ++ x :: (B ++ l.drop (k + 1))))).push ⟨[], []⟩) →
          go AP f_z_insertionSortCmpFunc_SchedulePass (.c (.loop b_z_insertionSortCmpFunc_SchedulePass_l1) :: k_z_insertionSortCmpFunc_SchedulePass_1) ⟨ρ, m⟩ = some (.tuple [], X (flP (isort c l))) := by
        intro A
        induction A with
        | nil =>
          rintro B ρ m _ hAB hins ⟨h0, h1, h2, h3, h8, h9, rfl⟩
          have hp : decide ((0 : Int) < 0) = false := rfl
          have h9 : ρ 9 = I 0 := h9
          rw [go_loop]
          simp only [insP] at hins
          rw [show ([] : List P).reverse ++ x :: (B ++ l.drop (k + 1)) = isort c (l.take (k + 1)) ++ l.drop (k + 1) by rw [← hins]; rfl]
          generalize flP (isort c (l.take (k + 1)) ++ l.drop (k + 1)) = Z at *
          simp (maxSteps := 1000000) only [go_sem, b_z_insertionSortCmpFunc_SchedulePass_l1, b_z_insertionSortCmpFunc_SchedulePass_r0, h1, h8, h9, hwk, Nat.reduceEqDiff, Int.reduceLT, ↓reduceIte]
          refine ih _ _ ?_
          exact ⟨by omega, h0, h1, h2, h3, rfl, rfl⟩
        | cons a A ihA =>
          rintro B ρ m hA hAB hins ⟨h0, h1, h2, h3, h8, h9, rfl⟩
          have hp : decide ((0 : Int) < (((a :: A).length : Nat) : Int)) = true := decide_eq_true (by simp)
          rw [go_loop]
          rw [List.length_cons] at hAB h9 hp
          have hsub : IntKind.i64.wrap (((A.length + 1 : Nat) : Int) - 1) = (A.length : Int) := by rw [wrap_id (by omega) (by omega)]; omega
          have hix1 := ix_rsl (d := d) (b := b) (es := 3) (i := A.length + 1) (n := l.length) (by omega)
          have hix0 := ix_rsl (d := d) (b := b) (es := 3) (i := A.length) (n := l.length) (by omega)
          have hgc := hg x a (hA a (by simp)).2
          have hrow : flP ((a :: A).reverse ++ x :: (B ++ l.drop (k + 1))) = flP A.reverse ++ (rowP a ++ (rowP x ++ flP (B ++ l.drop (k + 1)))) := by
            rw [List.reverse_cons, List.append_assoc, flP_app, List.singleton_append, flP_cons, flP_cons]
          have hrow2 : flP (A.reverse ++ x :: (a :: B ++ l.drop (k + 1))) = flP A.reverse ++ (rowP x ++ (rowP a ++ flP (B ++ l.drop (k + 1)))) := by
            rw [show A.reverse ++ x :: (a :: B ++ l.drop (k + 1)) = A.reverse ++ x :: a :: (B ++ l.drop (k + 1)) from rfl, flP_app, flP_cons, flP_cons]
          have hal : (flP A.reverse).length = A.length * 3 := by rw [flP_len, List.length_reverse]
          have hr3 : ∀ p : P, (rowP p).length = 3 := fun p => rfl
          have hbx := fun q => (hX.push q).box (flP A.reverse ++ (rowP a ++ (rowP x ++ flP (B ++ l.drop (k + 1)))))
          have hg0 : cutN (0 + A.length * 3) 3 (flP A.reverse ++ (rowP a ++ (rowP x ++ flP (B ++ l.drop (k + 1))))) = some (rowP a) := by
            rw [← hrow]
            refine flP_part ?_
            rw [List.reverse_cons, List.append_assoc, ← List.length_reverse (as := A)]; exact at_len
          have hg1 : cutN (0 + (A.length + 1) * 3) 3 (flP A.reverse ++ (rowP a ++ (rowP x ++ flP (B ++ l.drop (k + 1))))) = some (rowP x) := by
            rw [← hrow]
            refine flP_part ?_
            rw [List.reverse_cons, List.append_assoc, ← List.length_reverse (as := A)]; exact at_len1
          rw [hrow]
          have hst : ∀ (q : Rec) (row : List AV) (off : Nat) (v : P), S v → off + 3 ≤ row.length → ((X row).push q).store 3 (.ptr d b off) (.agg (rowP v)) = some ((X (setCells row off (rowP v))).push q) := fun q row off v hv ho => hX.store (y := .agg (rowP v)) (rowP_cell (hcl v hv)) (rowP_fit (hcl v hv)) rfl ho
          have hs1 := fun q => hst q (flP A.reverse ++ (rowP a ++ (rowP x ++ flP (B ++ l.drop (k + 1))))) (0 + (A.length + 1) * 3) a (hA a (by simp)).1 (by simp only [List.length_append, hal, hr3]; omega)
          rw [show setCells (flP A.reverse ++ (rowP a ++ (rowP x ++ flP (B ++ l.drop (k + 1))))) (0 + (A.length + 1) * 3) (rowP a) = flP A.reverse ++ (rowP a ++ (rowP a ++ flP (B ++ l.drop (k + 1)))) by
            have := setCells_mid (P := flP A.reverse ++ rowP a) (Q := rowP x) (R := flP (B ++ l.drop (k + 1))) (ys := rowP a) rfl
            rw [List.length_append, hal, hr3, List.append_assoc, List.append_assoc] at this
            rw [show 0 + (A.length + 1) * 3 = A.length * 3 + 3 by omega]; exact this] at hs1
          have hs2 := fun q => hst q (flP A.reverse ++ (rowP a ++ (rowP a ++ flP (B ++ l.drop (k + 1))))) (0 + A.length * 3) x hxS (by simp only [List.length_append, hal, hr3]; omega)
          rw [show setCells (flP A.reverse ++ (rowP a ++ (rowP a ++ flP (B ++ l.drop (k + 1))))) (0 + A.length * 3) (rowP x) = flP (A.reverse ++ x :: (a :: B ++ l.drop (k + 1))) by
            have := setCells_mid (P := flP A.reverse) (Q := rowP a) (R := rowP a ++ flP (B ++ l.drop (k + 1))) (ys := rowP x) rfl
            rw [hal] at this
            rw [show 0 + A.length * 3 = A.length * 3 by omega, this, hrow2]] at hs2
          rcases Decidable.em (c x a < 0) with hc | hc
          · have hd : decide (c x a < 0) = true := decide_eq_true hc
            have hih := ihA (a :: B)
            generalize flP (A.reverse ++ x :: (a :: B ++ l.drop (k + 1))) = Z3 at hs2 hih
            generalize flP A.reverse ++ (rowP a ++ (rowP a ++ flP (B ++ l.drop (k + 1)))) = Z2 at hs1 hs2
            generalize flP A.reverse ++ (rowP a ++ (rowP x ++ flP (B ++ l.drop (k + 1)))) = Z1 at hbx hg0 hg1 hs1
            simp (maxSteps := 1000000) only [go_sem, b_z_insertionSortCmpFunc_SchedulePass_l1, h0, h1, h3, h9, hp, hsub, hix0, hix1, hbx, hg0, hg1, hgc, hd, hs1, hs2, Nat.reduceEqDiff, reduceCtorEq, ↓reduceIte]
            refine hih _ _ (fun y hy => hA y (List.mem_cons_of_mem _ hy)) (by rw [List.length_cons]; omega) ?_ ?_
            · simp only [insP] at hins; rwa [if_pos hc] at hins
            · exact ⟨h0, h1, h2, h3, h8, rfl, rfl⟩
          · have hd : decide (c x a < 0) = false := decide_eq_false hc
            simp only [insP] at hins
            rw [if_neg hc] at hins
            have hz : flP A.reverse ++ (rowP a ++ (rowP x ++ flP (B ++ l.drop (k + 1)))) = flP (isort c (l.take (k + 1)) ++ l.drop (k + 1)) := by
              rw [← hrow, ← hins, List.append_assoc]; rfl
            generalize flP (isort c (l.take (k + 1)) ++ l.drop (k + 1)) = Z3 at hz ih
            generalize flP A.reverse ++ (rowP a ++ (rowP x ++ flP (B ++ l.drop (k + 1)))) = Z1 at hbx hg0 hg1 hs1 hz
            subst hz
            simp (maxSteps := 1000000) only [go_sem, b_z_insertionSortCmpFunc_SchedulePass_l1, b_z_insertionSortCmpFunc_SchedulePass_r0, h0, h1, h3, h8, h9, hp, hsub, hix0, hix1, hbx, hg0, hg1, hgc, hd, hwk, Nat.reduceEqDiff, reduceCtorEq, ↓reduceIte]
            refine ih _ _ ?_
            exact ⟨by omega, h0, h1, h2, h3, rfl, rfl⟩
      have hZ : flP (isort c (l.take k) ++ l.drop k) = flP ((isort c (l.take k)).reverse.reverse ++ x :: ([] ++ l.drop (k + 1))) := by
        rw [List.reverse_reverse, List.nil_append, ← hdr]
      have hin := inner (isort c (l.take k)).reverse []
      rw [← hZ, hlen] at hin
      generalize flP (isort c (l.take k) ++ l.drop k) = Z at hin
      simp (maxSteps := 1000000) only [go_sem, b_z_insertionSortCmpFunc_SchedulePass_l0, h2, h8, lt_dec hk, Nat.reduceEqDiff, ↓reduceIte]
      refine hin _ _ hmem (by simp) hnx.symm ?_
      exact ⟨h0, h1, h2, h3, h8, rfl, rfl⟩
    · rintro ρ m ⟨hk0, h0, h1, h2, h3, h8, rfl⟩
      rw [List.take_length, List.drop_length, List.append_nil]
      simp (maxSteps := 1000000) only [go_sem, b_z_insertionSortCmpFunc_SchedulePass_l0, h2, h8, ge_dec, Nat.reduceEqDiff, ↓reduceIte]
  have hw1 : IntKind.i64.wrap (0 + 1) = ((1 : Nat) : Int) := rfl
  cases l with
  | nil =>
    have hd : decide ((1 : Int) < 0) = false := rfl
    have hw0 : IntKind.i64.wrap (0 + 1) = 1 := rfl
    rw [callL_go (show AP 82 = some c_z_insertionSortCmpFunc_SchedulePass from rfl) rfl]
    simp (maxSteps := 1000000) only [go_sem, b_z_insertionSortCmpFunc_SchedulePass, List.length_nil, Int.reduceLT, Int.reduceLE, Int.reduceAdd, Int.reduceNeg, Int.cast_ofNat_Int, ↓reduceIte]
    rw [go_loop]
    simp (maxSteps := 1000000) only [go_sem, b_z_insertionSortCmpFunc_SchedulePass_l0, Nat.reduceEqDiff, Int.reduceLT, ↓reduceIte]
    rfl
  | cons y r =>
    have hkey := key 1
    have e1 : flP (isort c ((y :: r).take 1) ++ (y :: r).drop 1) = flP (y :: r) := rfl
    rw [e1] at hkey
    generalize hl' : y :: r = l at *
    rw [callL_go (show AP 82 = some c_z_insertionSortCmpFunc_SchedulePass from rfl) rfl]
    simp (maxSteps := 1000000) only [go_sem, b_z_insertionSortCmpFunc_SchedulePass, Int.reduceLT, Int.reduceLE, Int.reduceAdd, Int.reduceNeg, ↓reduceIte]
    refine hkey _ _ (by rw [← hl']; simp) ?_
    exact ⟨by decide, rfl, rfl, rfl, rfl, rfl, rfl⟩
end
end Go.Ax.Sx.Sc

namespace Go.Ax.Sx.Sc
open Go.Ax
set_option linter.unusedSimpArgs false
set_option linter.unusedVariables false
set_option maxRecDepth 100000

section
variable {s : Sig}
/-- how many bits a byte has -/
def len8 : ByteArray := ⟨#[0, 1, 2, 2, 3, 3, 3, 3, 4, 4, 4, 4, 4, 4, 4, 4, 5, 5, 5, 5, 5, 5, 5, 5, 5, 5, 5, 5, 5, 5, 5, 5, 6, 6, 6, 6, 6, 6, 6, 6, 6, 6, 6, 6, 6, 6, 6, 6, 6, 6, 6, 6, 6, 6, 6, 6, 6, 6, 6, 6, 6, 6, 6, 6, 7, 7, 7, 7, 7, 7, 7, 7, 7, 7, 7, 7, 7, 7, 7, 7, 7, 7, 7, 7, 7, 7, 7, 7, 7, 7, 7, 7, 7, 7, 7, 7, 7, 7, 7, 7, 7, 7, 7, 7, 7, 7, 7, 7, 7, 7, 7, 7, 7, 7, 7, 7, 7, 7, 7, 7, 7, 7, 7, 7, 7, 7, 7, 7, 8, 8, 8, 8, 8, 8, 8, 8, 8, 8, 8, 8, 8, 8, 8, 8, 8, 8, 8, 8, 8, 8, 8, 8, 8, 8, 8, 8, 8, 8, 8, 8, 8, 8, 8, 8, 8, 8, 8, 8, 8, 8, 8, 8, 8, 8, 8, 8, 8, 8, 8, 8, 8, 8, 8, 8, 8, 8, 8, 8, 8, 8, 8, 8, 8, 8, 8, 8, 8, 8, 8, 8, 8, 8, 8, 8, 8, 8, 8, 8, 8, 8, 8, 8, 8, 8, 8, 8, 8, 8, 8, 8, 8, 8, 8, 8, 8, 8, 8, 8, 8, 8, 8, 8, 8, 8, 8, 8, 8, 8, 8, 8, 8, 8, 8, 8, 8, 8, 8, 8, 8, 8, 8, 8, 8, 8, 8, 8]⟩
theorem len8_ix {n : Nat} (h : n ≤ 12) : ∃ b : Int, indexStrOp (.v (.string len8)) (.v (.int .u8 (n : Int))) = some (.v (.int .u8 b)) := by
  have h : n = 0 ∨ n = 1 ∨ n = 2 ∨ n = 3 ∨ n = 4 ∨ n = 5 ∨ n = 6 ∨ n = 7 ∨ n = 8 ∨ n = 9 ∨ n = 10 ∨ n = 11 ∨ n = 12 := by omega
  rcases h with rfl | rfl | rfl | rfl | rfl | rfl | rfl | rfl | rfl | rfl | rfl | rfl | rfl <;> exact ⟨_, rfl⟩
theorem bits_Len64 {n : Nat} (h : n ≤ 12) : ∃ v, callL AP (.fn 91) [.v (.int .u64 (n : Int))] s = some (I v, s) := by
  obtain ⟨b, hb⟩ := len8_ix h
  have hg : ∀ m : Int, (n : Int) < m → arithOp .geq (.v (.int .u64 (n : Int))) (.v (.int .u64 m)) = some (B false) := fun m hm => by
    simp [arithOp, isShift, intOp, show ¬ (m ≤ (n : Int)) by omega]
  have h1 := hg 4294967296 (by omega)
  have h2 := hg 65536 (by omega)
  have h3 := hg 256 (by omega)
  have hw : IntKind.u8.wrap (n : Int) = (n : Int) := by
    have h : n = 0 ∨ n = 1 ∨ n = 2 ∨ n = 3 ∨ n = 4 ∨ n = 5 ∨ n = 6 ∨ n = 7 ∨ n = 8 ∨ n = 9 ∨ n = 10 ∨ n = 11 ∨ n = 12 := by omega
    rcases h with rfl | rfl | rfl | rfl | rfl | rfl | rfl | rfl | rfl | rfl | rfl | rfl | rfl <;> rfl
  refine ⟨IntKind.i64.wrap (0 + IntKind.i64.wrap b), ?_⟩
  simp only [len8] at hb
  rw [callL_go (show AP 91 = some c_math_bits_Len64 from rfl) rfl]
  simp (maxSteps := 1000000) only [go_sem, b_math_bits_Len64, h1, h2, h3, hw, hb, Nat.reduceEqDiff, reduceCtorEq, ↓reduceIte]
theorem bits_Len {n : Nat} (h : n ≤ 12) : ∃ v, callL AP (.fn 47) [.v (.int .u64 (n : Int))] s = some (I v, s) := by
  obtain ⟨v, hv⟩ := bits_Len64 (s := s.push ⟨[], []⟩) h
  refine ⟨v, ?_⟩
  rw [callL_go (show AP 47 = some c_math_bits_Len from rfl) rfl]
  simp (maxSteps := 1000000) only [go_sem, b_math_bits_Len, hv, reduceCtorEq, ↓reduceIte]
end

section
variable {X : List AV → Sig} {d b : Nat}
theorem z_SortStable {l : List Int} {g : FuncId} {caps : List AV} {c : Int → Int → Int} {S : Int → Prop} (hX : Cell X d b) (hl : l.length ≤ 12) (hS : ∀ x ∈ l, S x)
    (hg : ∀ x y, S x → S y → ∀ row q1 q2 q3, callL AP (.fn g) (I x :: I y :: caps) ((((X row).push q1).push q2).push q3) = some (I (c x y), (((X row).push q1).push q2).push q3)) :
    callL AP (.fn 21) [.rsl d b 0 1 l.length 0, .fn g [] caps] (X (flI l)) = some (.tuple [], X (flI (isort c l))) := by
  have hi : ∀ q1 q2, callL AP (.fn 74) [.rsl d b 0 1 l.length 0, I 0, I l.length, .fn g [] caps] (((X (flI l)).push q1).push q2) = some (.tuple [], ((X (flI (isort c l))).push q1).push q2) := fun q1 q2 =>
    z_insertionSort_int (X := fun r => ((X r).push q1).push q2) ((hX.push q1).push q2) (by omega) hS (fun x y hx hy row q => hg x y hx hy row q1 q2 q)
  have h20 : decide ((20 : Int) ≤ (l.length : Int)) = false := by simp; omega
  have h21 : decide ((20 : Int) < (l.length : Int)) = false := by simp; omega
  have hst : ∀ q1, callL AP (.fn 43) [.rsl d b 0 1 l.length 0, I l.length, .fn g [] caps] ((X (flI l)).push q1) = some (.tuple [], (X (flI (isort c l))).push q1) := fun q1 => by
    have hi := hi q1
    generalize flI l = Z1 at *
    generalize flI (isort c l) = Z2 at *
    rw [callL_go (show AP 43 = some c_z_stableCmpFunc_int from rfl) rfl]
    simp (maxSteps := 1000000) only [go_sem, b_z_stableCmpFunc_int, Nat.reduceEqDiff, ↓reduceIte]
    rw [go_loop]
    simp (maxSteps := 1000000) only [go_sem, b_z_stableCmpFunc_int_l2, b_z_stableCmpFunc_int_r1, h20, hi, Nat.reduceEqDiff, reduceCtorEq, ↓reduceIte]
    rw [go_loop]
    simp (maxSteps := 1000000) only [go_sem, b_z_stableCmpFunc_int_l0, h21, Nat.reduceEqDiff, ↓reduceIte]
  generalize flI l = Z1 at *
  generalize flI (isort c l) = Z2 at *
  rw [callL_go (show AP 21 = some c_z_SortStableFunc_int from rfl) rfl]
  simp (maxSteps := 1000000) only [go_sem, b_z_SortStableFunc_int, len_rsl, hst, Nat.reduceEqDiff, reduceCtorEq, ↓reduceIte]

theorem z_SortFunc_P {l : List P} {g : FuncId} {caps : List AV} {c : P → P → Int} (hX : Cell X d b) (hl : l.length ≤ 12) (hcl : ∀ x ∈ l, x.an.ok 1) {D : P → P → Prop} (hD : l.Pairwise fun a x => D x a)
    (hg : ∀ x y, D x y → ∀ row q1 q2 q3, callL AP (.fn g) (.agg (rowP x) :: .agg (rowP y) :: caps) ((((X row).push q1).push q2).push q3) = some (I (c x y), (((X row).push q1).push q2).push q3)) :
    callL AP (.fn 24) [.rsl d b 0 3 l.length 0, .fn g [] caps] (X (flP l)) = some (.tuple [], X (flP (isort c l))) := by
  have hi : ∀ q1 q2, callL AP (.fn 82) [.rsl d b 0 3 l.length 0, I 0, I l.length, .fn g [] caps] (((X (flP l)).push q1).push q2) = some (.tuple [], ((X (flP (isort c l))).push q1).push q2) := fun q1 q2 =>
    z_insertionSort_P (X := fun r => ((X r).push q1).push q2) ((hX.push q1).push q2) (by omega) (S := fun x => x.an.ok 1) hcl (fun _ h => h) hD (fun x y hxy row q => hg x y hxy row q1 q2 q)
  have h12 : decide ((l.length : Int) ≤ 12) = true := by simp; omega
  have hw0 : IntKind.i64.wrap ((l.length : Int) - 0) = (l.length : Int) := by rw [Int.sub_zero]; exact wrap_id (by omega) (by omega)
  have hpd : ∀ (q1 : Rec) (v : Int), callL AP (.fn 46) [.rsl d b 0 3 l.length 0, I 0, I l.length, I v, .fn g [] caps] ((X (flP l)).push q1) = some (.tuple [], (X (flP (isort c l))).push q1) := fun q1 v => by
    have hi := hi q1
    generalize flP l = Z1 at *
    generalize flP (isort c l) = Z2 at *
    rw [callL_go (show AP 46 = some c_z_pdqsortCmpFunc_SchedulePass from rfl) rfl]
    simp (maxSteps := 1000000) only [go_sem, b_z_pdqsortCmpFunc_SchedulePass]
    rw [go_loop]
    simp (maxSteps := 1000000) only [go_sem, b_z_pdqsortCmpFunc_SchedulePass_l0, hw0, h12, hi, Nat.reduceEqDiff, reduceCtorEq, ↓reduceIte]
  have hbl : ∀ s, ∃ v, callL AP (.fn 47) [.v (.int .u64 (l.length : Int))] s = some (I v, s) := fun s => bits_Len hl
  obtain ⟨v, hv⟩ := hbl ((X (flP l)).push ⟨[], []⟩)
  have hw : IntKind.u64.wrap (l.length : Int) = (l.length : Int) := by
    generalize l.length = n at hl
    have h : n = 0 ∨ n = 1 ∨ n = 2 ∨ n = 3 ∨ n = 4 ∨ n = 5 ∨ n = 6 ∨ n = 7 ∨ n = 8 ∨ n = 9 ∨ n = 10 ∨ n = 11 ∨ n = 12 := by omega
    rcases h with rfl | rfl | rfl | rfl | rfl | rfl | rfl | rfl | rfl | rfl | rfl | rfl | rfl <;> rfl
  generalize flP l = Z1 at *
  generalize flP (isort c l) = Z2 at *
  rw [callL_go (show AP 24 = some c_z_SortFunc_SchedulePass from rfl) rfl]
  simp (maxSteps := 1000000) only [go_sem, b_z_SortFunc_SchedulePass, len_rsl, hw, hv, hpd, Nat.reduceEqDiff, reduceCtorEq, ↓reduceIte]
end
end Go.Ax.Sx.Sc

namespace Go.Ax.Sx.Sc
open Go.Ax
set_option linter.unusedSimpArgs false
set_option linter.unusedVariables false
set_option maxRecDepth 100000

section
variable {s : Sig} {w : W}

theorem s_compare {a b : P} (hs : Ok s) (ha : PIn w a) (hb : PIn w b) (hw : Wk w) (hne : a.req ≠ b.req) : callL AP (.fn 25) [.agg (rowP a), .agg (rowP b)] s = some (I (a.req - b.req), s) := by
  have hrl := hw.v.rl
  have := ha.r0
  have := ha.r1
  have := hb.r0
  have := hb.r1
  have hw1 : IntKind.i64.wrap (a.req - b.req) = a.req - b.req := wrap_id (by omega) (by omega)
  have hd : decide (a.req = b.req) = false := decide_eq_false hne
  rw [callL_go (show AP 25 = some c_s_compare from rfl) rfl]
  simp (maxSteps := 1000000) only [go_sem, b_s_compare, hne, hw1, ne_eq, not_false_iff, decide_true, Nat.reduceEqDiff, Nat.reduceAdd, ↓reduceIte]

theorem s_Greedy_1 {a b : Int} {d : Nat} (hs : Ok s) (hw : Wk w) (ha : 0 ≤ a ∧ a < w.rs.l.length) (hb : 0 ≤ b ∧ b < w.rs.l.length) (hbx : s.box d 0 = some (rowW w)) : callL AP (.fn 22) [I a, I b, .ptr d 0 0] s = some (I ((w.rq b).val - (w.rq a).val), s) := by
  have ra := Sl.ix (f := rowR) hw.ok.rs (W.rq_get ha.1 ha.2)
  have rb := Sl.ix (f := rowR) hw.ok.rs (W.rq_get hb.1 hb.2)
  rw [show ((a.toNat : Nat) : Int) = a by omega] at ra
  rw [show ((b.toNat : Nat) : Int) = b by omega] at rb
  have v1 := (hw.rq ha.1 ha.2).val0
  have v2 := (hw.rq ha.1 ha.2).val1
  have v3 := (hw.rq hb.1 hb.2).val0
  have v4 := (hw.rq hb.1 hb.2).val1
  have hw1 : IntKind.i64.wrap ((w.rq b).val - (w.rq a).val) = (w.rq b).val - (w.rq a).val := wrap_id (by omega) (by omega)
  have hk := fun r => box_keep hbx r
  simp only [rowR, rowW, Sl.v] at ra rb hk
  rw [callL_go (show AP 22 = some c_s_Greedy_1 from rfl) rfl]
  simp (maxSteps := 1000000) only [go_sem, b_s_Greedy_1, hk, ra, rb, hw1, Nat.reduceEqDiff, reduceCtorEq, Nat.reduceAdd, ↓reduceIte]
end

/-! ### The greedy plan -/
def gstep (w : W) (pl : List P) (i : Int) : List P := match plcs w pl i with
  | [] => pl
  | p :: _ => pl ++ [p]
def rngI (n : Nat) : List Int := (List.range n).map fun i : Nat => (i : Int)
theorem rngI_s {n : Nat} : rngI (n + 1) = rngI n ++ [(n : Int)] := by simp [rngI, List.range_succ]
theorem rngI_len {n : Nat} : (rngI n).length = n := by simp [rngI]
theorem rngI_mem {n : Nat} {i : Int} : i ∈ rngI n ↔ 0 ≤ i ∧ i < n := by
  unfold rngI
  simp only [List.mem_map, List.mem_range]
  constructor
  · rintro ⟨k, hk, rfl⟩; omega
  · rintro ⟨h0, h1⟩; exact ⟨i.toNat, by omega, by omega⟩
/-- the requests, the dearest first -/
def ordG (w : W) : List Int := isort (fun a b => (w.rq b).val - (w.rq a).val) (rngI w.rs.l.length)
/-- the passes, as they are taken -/
def pasG (w : W) : List P := (ordG w).foldl (gstep w) []
def grdG (w : W) : List P := isort (fun a b : P => a.req - b.req) (pasG w)

section
variable {w : W}
theorem gstep_in (hw : Wk w) {pl : List P} {i : Int} (hi : 0 ≤ i ∧ i < w.rs.l.length) (h : ∀ p ∈ pl, PIn w p) : ∀ p ∈ gstep w pl i, PIn w p := by
  intro p hp
  unfold gstep at hp
  split at hp
  · exact h p hp
  · rename_i q r he
    rcases List.mem_append.1 hp with hp | hp
    · exact h p hp
    · rw [List.mem_singleton] at hp
      subst hp
      have : p ∈ plcs w pl i := by rw [he]; simp
      exact (poss_in hw hi.1 hi.2 (List.mem_filter.1 this).1).1
theorem gstep_len {pl : List P} {i : Int} : (gstep w pl i).length ≤ pl.length + 1 := by
  unfold gstep; split <;> simp
theorem gfold_in (hw : Wk w) : ∀ {l : List Int} {pl : List P}, (∀ i ∈ l, 0 ≤ i ∧ i < w.rs.l.length) → (∀ p ∈ pl, PIn w p) → ∀ p ∈ l.foldl (gstep w) pl, PIn w p
  | [], _, _, h => h
  | i :: l, pl, hl, h => by
    rw [List.foldl_cons]
    exact gfold_in hw (fun j hj => hl j (List.mem_cons_of_mem _ hj)) (gstep_in hw (hl i (by simp)) h)
theorem gfold_len : ∀ {l : List Int} {pl : List P}, (l.foldl (gstep w) pl).length ≤ pl.length + l.length
  | [], _ => by simp
  | i :: l, pl => by
    rw [List.foldl_cons, List.length_cons]
    have h1 := gfold_len (l := l) (pl := gstep w pl i)
    have h2 := gstep_len (w := w) (pl := pl) (i := i)
    omega
theorem ordG_mem {i : Int} : i ∈ ordG w ↔ 0 ≤ i ∧ i < w.rs.l.length := by unfold ordG; rw [isort_perm.mem_iff, rngI_mem]
theorem ordG_len : (ordG w).length = w.rs.l.length := by unfold ordG; rw [isort_len, rngI_len]
theorem pasG_in (hw : Wk w) : ∀ p ∈ pasG w, PIn w p := gfold_in hw (fun i hi => ordG_mem.1 hi) (by simp)
theorem pasG_len : (pasG w).length ≤ w.rs.l.length := by have := gfold_len (w := w) (l := ordG w) (pl := []); rw [ordG_len] at this; simpa [pasG] using this

/-- A plan: every request has its pass at most once. -/
theorem gfold_req (hw : Wk w) : ∀ {l : List Int} {pl : List P}, (∀ i ∈ l, 0 ≤ i ∧ i < w.rs.l.length) → l.Nodup → (∀ p ∈ pl, p.req ∉ l) → pl.Pairwise (fun a b => a.req ≠ b.req) → (l.foldl (gstep w) pl).Pairwise fun a b => a.req ≠ b.req
  | [], _, _, _, _, h => h
  | i :: l, pl, hl, hn, hp, h => by
    rw [List.foldl_cons]
    obtain ⟨n1, n2⟩ := List.nodup_cons.1 hn
    have hreq : ∀ p ∈ plcs w pl i, p.req = i := fun p hp => (poss_in hw (hl i (by simp)).1 (hl i (by simp)).2 (List.mem_filter.1 hp).1).2.1
    refine gfold_req hw (fun j hj => hl j (List.mem_cons_of_mem _ hj)) n2 ?_ ?_
    · intro p hm
      unfold gstep at hm
      split at hm
      · exact fun e => hp p hm (List.mem_cons_of_mem _ e)
      · rename_i q r he
        rcases List.mem_append.1 hm with hm | hm
        · exact fun e => hp p hm (List.mem_cons_of_mem _ e)
        · rw [List.mem_singleton] at hm
          subst hm
          rw [hreq p (by rw [he]; simp)]; exact n1
    · unfold gstep
      split
      · exact h
      · rename_i q r he
        rw [List.pairwise_append]
        refine ⟨h, by simp, fun a ha b hb => ?_⟩
        rw [List.mem_singleton] at hb
        subst hb
        rw [hreq b (by rw [he]; simp)]
        intro e
        exact hp a ha (by rw [e]; simp)
theorem rngI_nodup {n : Nat} : (rngI n).Nodup := by
  unfold rngI
  rw [List.Nodup, List.pairwise_map]
  exact List.pairwise_lt_range.imp fun h => by omega
theorem ordG_nodup : (ordG w).Nodup := isort_perm.nodup_iff.2 rngI_nodup
theorem pasG_req (hw : Wk w) : (pasG w).Pairwise fun a b => a.req ≠ b.req := gfold_req hw (fun i hi => ordG_mem.1 hi) ordG_nodup (by simp) List.Pairwise.nil
end
end Go.Ax.Sx.Sc
