/- A part of the proof. -/
import Derived.Test.YtchenadpkldjdaaGreatDoorT12
namespace Go.Ax.Sx.Sc
open Go.Ax
set_option linter.unusedSimpArgs false
set_option linter.unusedVariables false
set_option maxRecDepth 100000

section
variable {s : Sig} {w : W}

theorem any_comm2 {l r : List Int} : (l.any fun n => r.any fun m => decide (n = m)) = r.any fun n => l.any fun m => decide (n = m) := by
  rw [Bool.eq_iff_iff]
  simp only [List.any_eq_true, decide_eq_true_eq]
  constructor
  · rintro ⟨x, hx, y, hy, rfl⟩; exact ⟨x, hy, x, hx, rfl⟩
  · rintro ⟨x, hx, y, hy, rfl⟩; exact ⟨x, hy, x, hx, rfl⟩

theorem clash_eq (hw : Wk w) {a b : P} (ha : PIn w a) (h : a.start = b.start) : clash w a b = a.an.l.any fun n => b.an.l.any fun m => decide (n = m) := by
  have hl := hw.len ha.r0 ha.r1
  unfold clash
  rw [Bool.eq_iff_iff]
  simp only [List.any_eq_true, Bool.and_eq_true, decide_eq_true_eq]
  constructor
  · rintro ⟨x, hx, h1, _⟩; exact ⟨x, hx, h1⟩
  · rintro ⟨x, hx, h1⟩
    refine ⟨x, hx, h1, ?_⟩
    have := hw.stp (ha.an x hx).1 (ha.an x hx).2
    unfold endP
    split <;> omega

theorem conf_symm (hw : Wk w) {a b : P} (ha : PIn w a) (hb : PIn w b) : conf w a b = conf w b a := by
  unfold conf
  by_cases h1 : a.req = b.req
  · rw [if_pos h1, if_pos (Eq.symm h1)]
  · rw [if_neg h1, if_neg (show ¬ b.req = a.req from fun e => h1 (Eq.symm e))]
    by_cases h2 : b.start < a.start
    · rw [if_pos h2, if_neg (by omega)]
    · rw [if_neg h2]
      by_cases h3 : a.start < b.start
      · rw [if_pos h3]
      · rw [if_neg h3, clash_eq hw ha (by omega), clash_eq hw hb (by omega), any_comm2]

theorem any_flip {l : List Int} {a : Int} : (l.any fun m => decide (m = a)) = l.any fun b => decide (a = b) := by
  congr 1; funext m; exact dec_iff eq_comm
def prevA (l : List Int) : Nat → Int
  | 0 => -1
  | k + 1 => l.getD k 0

theorem lastR_take {l : List P} {i : Nat} {x : P} (h : l[i]? = some x) : lastR (l.take (i + 1)) = x.req := by
  rw [take_get h]; unfold lastR; simp

theorem r_passErr {l : List P} {o : Own} {e i : Nat} {p : P} (hs : Ok s) (hw : Wk w) (he : l = [] ∨ e = 3) (hn : (l.length : Int) < 1000000) (hi : l[i]? = some p) (hpo : p.an.ok 1) (hpl : (p.an.l.length : Int) < 1000000) (hl : ∀ x ∈ l.take i, PIn w x) :
    callL AP (.fn 49) [w.v, .slice o e (l.map rowP), I i] s = some (I (passE w p (l.take i)), s) := by
  have hil : i < l.length := (List.getElem?_eq_some_iff.1 hi).1
  have he : e = 3 := by rcases he with h | h; (rw [h] at hi; simp at hi); exact h
  subst he
  have hix := ix_map (f := rowP) (o := o) (es := 3) hi
  have hrl := hw.v.rl
  have hn2 := hw.v.n2
  rw [callL_go (show AP 49 = some c_r_passErr from rfl) rfl]
  unfold passE
  have hwr1 : IntKind.i64.wrap ((w.rs.l.length : Int) - 1) = (w.rs.l.length : Int) - 1 := wrap_id (by omega) (by omega)
  cases h1 : wi p.req 0 (w.rs.l.length - 1) with
  | false => simp (maxSteps := 1000000) only [go_sem, b_r_passErr, hs, hix, b_Within, hwr1, h1, Bool.false_eq_true, Nat.reduceEqDiff, reduceCtorEq, Nat.reduceAdd, Nat.reduceMul, Nat.reduceSub, Int.reduceLT, Int.reduceLE, Int.reduceEq, Int.reduceAdd, Int.reduceSub, Int.reduceNeg, Int.reduceToNat, Int.cast_ofNat_Int, ↓reduceIte]
  | true =>
    rw [if_pos rfl]
    obtain ⟨hr0, hr1⟩ := wi_iff.1 h1
    have hr1' : p.req < w.rs.l.length := by omega
    have hq := hw.rq hr0 hr1'
    have hrs := ix_rs hw hr0 hr1'
    have hlen := hw.len hr0 hr1'
    have hlo0 := hq.lo0
    have hhin := hq.hin
    have hlohi := hq.lohi
    have hlenhi := hq.lenhi
    generalize hqq : w.rq p.req = q at *
    have hwr2 : IntKind.i64.wrap (q.hi - q.len) = q.hi - q.len := wrap_id (by omega) (by omega)
    have hwr3 : IntKind.i64.wrap (q.hi - q.len + 1) = q.hi + 1 - q.len := by rw [wrap_id (by omega) (by omega)]; omega
    -- the conflicts
    have kc : PIn w p → ∀ (k : Nat) ρ m, k ≤ i → (ρ 1 = .slice o 3 (l.map rowP) ∧ ρ 2 = I i ∧ ρ 3 = .ptr s.acts.length 0 0 ∧ ρ 7 = .ptr s.acts.length 1 0 ∧ ρ 10 = I k ∧ m = s.push ⟨[rowW w, rowP p, rowR q], []⟩) →
        go AP f_r_passErr (.c (.loop b_r_passErr_l0) :: k_r_passErr_0) ⟨ρ, m⟩ = some (I (if (((l.take i).drop k).any fun x => conf w x p) = true then 13 else 0), s) := by
      intro hp
      refine loop_up i _ _ ?_ ?_
      · rintro k ρ m hk ⟨g1, g2, g3, g7, g10, rfl⟩ ih
        obtain ⟨x, hx⟩ := get_some (l := l) (k := k) (by omega)
        have hxt : (l.take i)[k]? = some x := by rw [List.getElem?_take, if_pos hk]; exact hx
        have hxin := hl x (List.mem_of_getElem? hxt)
        have hr := ix_map (f := rowP) (o := o) (es := 3) hx
        have hcf : ∀ r, callL AP (.fn 33) [w.v, .agg (rowP p), .agg (rowP x)] (s.push r) = some (B (conf w x p), s.push r) := fun r => by
          rw [r_Conflict (hs.push r) hw hp hxin, conf_symm hw hp hxin]
        simp only [W.v, rowW, rowP, Sl.v] at hcf
        rw [drop_get hxt, List.any_cons]
        cases hd : conf w x p with
        | true => simp (maxSteps := 1000000) only [go_sem, b_r_passErr_l0, g1, g2, g3, g7, g10, hs, lt_dec hk, hr, hcf, hd, Bool.true_or, Nat.reduceEqDiff, reduceCtorEq, Nat.reduceAdd, Nat.reduceMul, Nat.reduceSub, Int.reduceLT, Int.reduceLE, Int.reduceEq, Int.reduceAdd, Int.reduceSub, Int.reduceNeg, Int.reduceToNat, Int.cast_ofNat_Int, ↓reduceIte]
        | false =>
          simp (maxSteps := 1000000) only [go_sem, b_r_passErr_l0, g1, g2, g3, g7, g10, hs, lt_dec hk, hr, hcf, hd, wrap_succ hk (show (i : Int) < _ by omega), Nat.reduceEqDiff, reduceCtorEq, Nat.reduceAdd, Nat.reduceMul, Nat.reduceSub, Int.reduceLT, Int.reduceLE, Int.reduceEq, Int.reduceAdd, Int.reduceSub, Int.reduceNeg, Int.reduceToNat, Int.cast_ofNat_Int, ↓reduceIte]
          rw [Bool.false_or]
          refine ih _ _ ?_
          exact ⟨g1, g2, g3, g7, rfl, rfl⟩
      · rintro ρ m ⟨g1, g2, g3, g7, g10, rfl⟩
        simp (maxSteps := 1000000) only [go_sem, b_r_passErr_l0, b_r_passErr_r0, g1, g2, g3, g7, g10, hs, ge_dec, Nat.reduceEqDiff, reduceCtorEq, Nat.reduceAdd, Nat.reduceMul, Nat.reduceSub, Int.reduceLT, Int.reduceLE, Int.reduceEq, Int.reduceAdd, Int.reduceSub, Int.reduceNeg, Int.reduceToNat, Int.cast_ofNat_Int, ↓reduceIte]
        rw [List.drop_of_length_le (by rw [List.length_take]; omega)]; rfl
    -- the antennas
    have ka : (q.lo ≤ p.start ∧ p.start ≤ q.hi + 1 - q.len) → ∀ (k : Nat) ρ m, k ≤ p.an.l.length → (ρ 1 = .slice o 3 (l.map rowP) ∧ ρ 2 = I i ∧ ρ 3 = .ptr s.acts.length 0 0 ∧ ρ 7 = .ptr s.acts.length 1 0 ∧ ρ 8 = .ptr s.acts.length 2 0 ∧ ρ 9 = I k ∧ (∀ a ∈ p.an.l.take k, 0 ≤ a ∧ a < w.as.l.length) ∧ m = s.push ⟨[rowW w, rowP p, rowR q], []⟩) →
        go AP f_r_passErr (.c (.loop b_r_passErr_l1) :: k_r_passErr_1) ⟨ρ, m⟩ = some (I (if anE q (prevA p.an.l k) (p.an.l.drop k) = 0 then (if (p.an.l.any fun a => !openB w a p.start q.len) = true then 21 else if confs w p (l.take i) = true then 13 else 0) else anE q (prevA p.an.l k) (p.an.l.drop k)), s) := by
      intro hst
      refine loop_up p.an.l.length _ _ ?_ ?_
      · rintro k ρ m hk ⟨g1, g2, g3, g7, g8, g9, hin, rfl⟩ ih
        obtain ⟨a, ha⟩ := get_some hk
        have hr := Sl.ix (f := rowI) hpo ha
        have hh : ∀ r, callL AP (.fn 52) [.slice q.an.o q.an.e (q.an.l.map rowI), I a] (s.push r) = some (B (q.an.l.any fun b => decide (a = b)), s.push r) := fun r => by
          have hqm := W.rq_mem hr0 hr1'
          rw [hqq] at hqm
          rw [b_Has (hw.ok.an q hqm).1 (by have := hw.few.an q hqm; omega)]
          rw [any_flip]
        rw [drop_get ha, anE]
        cases hc : (q.an.l.any fun b => decide (a = b)) with
        | false =>
          simp (maxSteps := 1000000) only [go_sem, b_r_passErr_l1, g1, g2, g3, g7, g8, g9, hs, lt_dec hk, hr, hh, hc, Bool.false_eq_true, Nat.reduceEqDiff, reduceCtorEq, Nat.reduceAdd, Nat.reduceMul, Nat.reduceSub, Int.reduceLT, Int.reduceLE, Int.reduceEq, Int.reduceAdd, Int.reduceSub, Int.reduceNeg, Int.reduceToNat, Int.cast_ofNat_Int, ↓reduceIte]
        | true =>
          have ha2 : 0 ≤ a ∧ a < w.as.l.length := by
            obtain ⟨b, hb, he⟩ := List.any_eq_true.1 hc
            rw [of_decide_eq_true he]; exact hq.anin b hb
          rw [if_pos rfl]
          have hin' : ∀ x ∈ p.an.l.take (k + 1), 0 ≤ x ∧ x < w.as.l.length := by
            intro x hx
            rw [take_get ha, List.mem_append] at hx
            rcases hx with hx | hx
            · exact hin x hx
            · rw [List.mem_singleton] at hx; rw [hx]; exact ha2
          have hpv : prevA p.an.l (k + 1) = a := by show p.an.l.getD k 0 = a; rw [List.getD, ha]; rfl
          rcases Nat.eq_zero_or_pos k with hk0 | hk0
          · have hlt : prevA p.an.l k < a := by rw [hk0, show prevA p.an.l 0 = -1 from rfl]; omega
            rw [if_pos hlt]
            have h0 : decide ((0 : Int) < (k : Int)) = false := by simp; omega
            simp (maxSteps := 1000000) only [go_sem, b_r_passErr_l1, g1, g2, g3, g7, g8, g9, hs, lt_dec hk, hr, hh, hc, h0, wrap_succ hk (show (p.an.l.length : Int) < _ by omega), Nat.reduceEqDiff, reduceCtorEq, Nat.reduceAdd, Nat.reduceMul, Nat.reduceSub, Int.reduceLT, Int.reduceLE, Int.reduceEq, Int.reduceAdd, Int.reduceSub, Int.reduceNeg, Int.reduceToNat, Int.cast_ofNat_Int, ↓reduceIte]
            refine Eq.trans (ih _ _ ?_) ?_
            · exact ⟨g1, g2, g3, g7, g8, rfl, hin', rfl⟩
            · rw [hpv]
          · obtain ⟨b, hb⟩ := get_some (l := p.an.l) (k := k - 1) (by omega)
            have hr2 := Sl.ix (f := rowI) hpo hb
            have h0 : decide ((0 : Int) < (k : Int)) = true := by simp; omega
            have hsub : IntKind.i64.wrap ((k : Int) - 1) = ((k - 1 : Nat) : Int) := by rw [wrap_id (by omega) (by omega)]; omega
            have hpb : prevA p.an.l k = b := by
              obtain ⟨j, rfl⟩ : ∃ j, k = j + 1 := ⟨k - 1, by omega⟩
              show p.an.l.getD j 0 = b
              rw [List.getD, show p.an.l[j]? = some b from hb]; rfl
            rw [hpb]
            by_cases hab : b < a
            · rw [if_pos hab]
              have hd : decide (a ≤ b) = false := by simp; omega
              simp (maxSteps := 1000000) only [go_sem, b_r_passErr_l1, g1, g2, g3, g7, g8, g9, hs, lt_dec hk, hr, hh, hc, h0, hsub, hr2, hd, wrap_succ hk (show (p.an.l.length : Int) < _ by omega), Nat.reduceEqDiff, reduceCtorEq, Nat.reduceAdd, Nat.reduceMul, Nat.reduceSub, Int.reduceLT, Int.reduceLE, Int.reduceEq, Int.reduceAdd, Int.reduceSub, Int.reduceNeg, Int.reduceToNat, Int.cast_ofNat_Int, ↓reduceIte]
              refine Eq.trans (ih _ _ ?_) ?_
              · exact ⟨g1, g2, g3, g7, g8, rfl, hin', rfl⟩
              · rw [hpv]
            · rw [if_neg hab]
              have hd : decide (a ≤ b) = true := by simp; omega
              simp (maxSteps := 1000000) only [go_sem, b_r_passErr_l1, g1, g2, g3, g7, g8, g9, hs, lt_dec hk, hr, hh, hc, h0, hsub, hr2, hd, Nat.reduceEqDiff, reduceCtorEq, Nat.reduceAdd, Nat.reduceMul, Nat.reduceSub, Int.reduceLT, Int.reduceLE, Int.reduceEq, Int.reduceAdd, Int.reduceSub, Int.reduceNeg, Int.reduceToNat, Int.cast_ofNat_Int, ↓reduceIte]
      · rintro ρ m ⟨g1, g2, g3, g7, g8, g9, hin, rfl⟩
        rw [List.take_length] at hin
        have hp : PIn w p := ⟨hr0, hr1', by omega, by omega, hin, hpo, by omega⟩
        have hsh : ∀ r, callL AP (.fn 51) [w.v, .agg (rowP p)] (s.push r) = some (B (p.an.l.any fun a => !openB w a p.start q.len), s.push r) := fun r => by
          rw [r_shut (hs.push r) hw hp, hqq]
        have kc' := kc hp 0
        simp only [W.v, rowW, rowP, Sl.v] at hsh
        rw [List.drop_length, anE, if_pos rfl]
        cases hc : (p.an.l.any fun a => !openB w a p.start q.len) with
        | true => simp (maxSteps := 1000000) only [go_sem, b_r_passErr_l1, b_r_passErr_r1, g1, g2, g3, g7, g8, g9, hs, ge_dec, hsh, hc, Nat.reduceEqDiff, reduceCtorEq, Nat.reduceAdd, Nat.reduceMul, Nat.reduceSub, Int.reduceLT, Int.reduceLE, Int.reduceEq, Int.reduceAdd, Int.reduceSub, Int.reduceNeg, Int.reduceToNat, Int.cast_ofNat_Int, ↓reduceIte]
        | false =>
          rw [if_neg (by simp)]
          simp (maxSteps := 1000000) only [go_sem, b_r_passErr_l1, b_r_passErr_r1, g1, g2, g3, g7, g8, g9, hs, ge_dec, hsh, hc, Nat.reduceEqDiff, reduceCtorEq, Nat.reduceAdd, Nat.reduceMul, Nat.reduceSub, Int.reduceLT, Int.reduceLE, Int.reduceEq, Int.reduceAdd, Int.reduceSub, Int.reduceNeg, Int.reduceToNat, Int.cast_ofNat_Int, ↓reduceIte]
          refine Eq.trans (kc' _ _ (Nat.zero_le _) ?_) ?_
          · exact ⟨g1, g2, g3, g7, rfl, rfl⟩
          · rw [List.drop_zero]; rfl
    simp only [rowR, rowP, Sl.v] at hrs hix
    -- behind the order
    have tail : (if wi p.start q.lo (q.hi + 1 - q.len) = true then (if (p.an.l.length : Int) = q.need then (if anE q (-1) p.an.l = 0 then (if (p.an.l.any fun a => !openB w a p.start q.len) = true then 21 else if confs w p (l.take i) = true then 13 else 0) else anE q (-1) p.an.l) else 10) else 2) = (if wi p.start q.lo (q.hi + 1 - q.len) = true then (if (p.an.l.length : Int) = q.need then (if anE q (-1) p.an.l = 0 then (if (p.an.l.any fun a => !openB w a p.start q.len) = true then 21 else if confs w p (l.take i) = true then 13 else 0) else anE q (-1) p.an.l) else 10) else 2) := rfl
    rcases Nat.eq_zero_or_pos i with hi0 | hi0
    · have hlt : lastR (l.take i) < p.req := by rw [hi0, show lastR (l.take 0) = -1 from rfl]; omega
      rw [if_pos hlt]
      have h0 : decide ((0 : Int) < (i : Int)) = false := by simp; omega
      cases h2 : wi p.start q.lo (q.hi + 1 - q.len) with
      | false => simp (maxSteps := 1000000) only [go_sem, b_r_passErr, hs, hix, b_Within, hwr1, h1, h0, hrs, hwr2, hwr3, h2, Bool.false_eq_true, Nat.reduceEqDiff, reduceCtorEq, Nat.reduceAdd, Nat.reduceMul, Nat.reduceSub, Int.reduceLT, Int.reduceLE, Int.reduceEq, Int.reduceAdd, Int.reduceSub, Int.reduceNeg, Int.reduceToNat, Int.cast_ofNat_Int, ↓reduceIte]
      | true =>
        rw [if_pos rfl]
        by_cases h3 : (p.an.l.length : Int) = q.need
        · rw [if_pos h3]
          have hd : decide (¬ (p.an.l.length : Int) = q.need) = false := by simp [h3]
          simp (maxSteps := 1000000) only [go_sem, b_r_passErr, hs, hix, b_Within, hwr1, h1, h0, hrs, hwr2, hwr3, h2, hd, ne_eq, Nat.reduceEqDiff, reduceCtorEq, Nat.reduceAdd, Nat.reduceMul, Nat.reduceSub, Int.reduceLT, Int.reduceLE, Int.reduceEq, Int.reduceAdd, Int.reduceSub, Int.reduceNeg, Int.reduceToNat, Int.cast_ofNat_Int, ↓reduceIte]
          refine Eq.trans (ka (wi_iff.1 h2) 0 _ _ (Nat.zero_le _) ?_) ?_
          · exact ⟨rfl, rfl, rfl, rfl, rfl, rfl, fun a h => absurd h (by simp), rfl⟩
          · rw [List.drop_zero]; rfl
        · rw [if_neg h3]
          have hd : decide (¬ (p.an.l.length : Int) = q.need) = true := by simp [h3]
          simp (maxSteps := 1000000) only [go_sem, b_r_passErr, hs, hix, b_Within, hwr1, h1, h0, hrs, hwr2, hwr3, h2, hd, ne_eq, Nat.reduceEqDiff, reduceCtorEq, Nat.reduceAdd, Nat.reduceMul, Nat.reduceSub, Int.reduceLT, Int.reduceLE, Int.reduceEq, Int.reduceAdd, Int.reduceSub, Int.reduceNeg, Int.reduceToNat, Int.cast_ofNat_Int, ↓reduceIte]
    · obtain ⟨x, hx⟩ := get_some (l := l) (k := i - 1) (by omega)
      have hr2 := ix_map (f := rowP) (o := o) (es := 3) hx
      have h0 : decide ((0 : Int) < (i : Int)) = true := by simp; omega
      have hsub : IntKind.i64.wrap ((i : Int) - 1) = ((i - 1 : Nat) : Int) := by rw [wrap_id (by omega) (by omega)]; omega
      have hla : lastR (l.take i) = x.req := by
        obtain ⟨j, rfl⟩ : ∃ j, i = j + 1 := ⟨i - 1, by omega⟩
        exact lastR_take hx
      rw [hla]
      simp only [rowP, Sl.v] at hr2
      by_cases hlt : x.req < p.req
      · rw [if_pos hlt]
        have hd0 : decide (p.req ≤ x.req) = false := by simp; omega
        cases h2 : wi p.start q.lo (q.hi + 1 - q.len) with
        | false => simp (maxSteps := 1000000) only [go_sem, b_r_passErr, hs, hix, b_Within, hwr1, h1, h0, hsub, hr2, hd0, hrs, hwr2, hwr3, h2, Bool.false_eq_true, Nat.reduceEqDiff, reduceCtorEq, Nat.reduceAdd, Nat.reduceMul, Nat.reduceSub, Int.reduceLT, Int.reduceLE, Int.reduceEq, Int.reduceAdd, Int.reduceSub, Int.reduceNeg, Int.reduceToNat, Int.cast_ofNat_Int, ↓reduceIte]
        | true =>
          rw [if_pos rfl]
          by_cases h3 : (p.an.l.length : Int) = q.need
          · rw [if_pos h3]
            have hd : decide (¬ (p.an.l.length : Int) = q.need) = false := by simp [h3]
            simp (maxSteps := 1000000) only [go_sem, b_r_passErr, hs, hix, b_Within, hwr1, h1, h0, hsub, hr2, hd0, hrs, hwr2, hwr3, h2, hd, ne_eq, Nat.reduceEqDiff, reduceCtorEq, Nat.reduceAdd, Nat.reduceMul, Nat.reduceSub, Int.reduceLT, Int.reduceLE, Int.reduceEq, Int.reduceAdd, Int.reduceSub, Int.reduceNeg, Int.reduceToNat, Int.cast_ofNat_Int, ↓reduceIte]
            refine Eq.trans (ka (wi_iff.1 h2) 0 _ _ (Nat.zero_le _) ?_) ?_
            · exact ⟨rfl, rfl, rfl, rfl, rfl, rfl, fun a h => absurd h (by simp), rfl⟩
            · rw [List.drop_zero]; rfl
          · rw [if_neg h3]
            have hd : decide (¬ (p.an.l.length : Int) = q.need) = true := by simp [h3]
            simp (maxSteps := 1000000) only [go_sem, b_r_passErr, hs, hix, b_Within, hwr1, h1, h0, hsub, hr2, hd0, hrs, hwr2, hwr3, h2, hd, ne_eq, Nat.reduceEqDiff, reduceCtorEq, Nat.reduceAdd, Nat.reduceMul, Nat.reduceSub, Int.reduceLT, Int.reduceLE, Int.reduceEq, Int.reduceAdd, Int.reduceSub, Int.reduceNeg, Int.reduceToNat, Int.cast_ofNat_Int, ↓reduceIte]
      · rw [if_neg hlt]
        have hd0 : decide (p.req ≤ x.req) = true := by simp; omega
        simp (maxSteps := 1000000) only [go_sem, b_r_passErr, hs, hix, b_Within, hwr1, h1, h0, hsub, hr2, hd0, Nat.reduceEqDiff, reduceCtorEq, Nat.reduceAdd, Nat.reduceMul, Nat.reduceSub, Int.reduceLT, Int.reduceLE, Int.reduceEq, Int.reduceAdd, Int.reduceSub, Int.reduceNeg, Int.reduceToNat, Int.cast_ofNat_Int, ↓reduceIte]

theorem r_CheckPlan {l : List P} {o : Own} {e : Nat} (hs : Ok s) (hw : Wk w) (hl : PlOk l) (he : l = [] ∨ e = 3) : callL AP (.fn 30) [w.v, .slice o e (l.map rowP)] s = some (.tuple [I (chkE w l).1, I (chkE w l).2], s) := by
  have hlen := hl.len
  have key : ∀ (j : Nat) ρ x, j ≤ l.length → (ρ 1 = .slice o e (l.map rowP) ∧ ρ 2 = .ptr s.acts.length 0 0 ∧ ρ 6 = I j ∧ (∀ y ∈ l.take j, PIn w y) ∧ x = s.push ⟨[rowW w], []⟩) →
      go AP f_r_CheckPlan (.c (.loop b_r_CheckPlan_l0) :: k_r_CheckPlan_0) ⟨ρ, x⟩ = some (match firstAt (fun i x => passE w x (l.take i)) j (l.drop j) with | some (k, e) => .tuple [I k, I e] | none => .tuple [I 0, I 0], s) := by
    refine loop_up l.length _ _ ?_ ?_
    · rintro j ρ x hj ⟨h1, h2, h6, hin, rfl⟩ ih
      obtain ⟨p, hp⟩ := get_some hj
      have hpo := hl.ok p (List.mem_of_getElem? hp)
      have hpe : ∀ r, callL AP (.fn 49) [w.v, .slice o e (l.map rowP), I j] (s.push r) = some (I (passE w p (l.take j)), s.push r) := fun r => r_passErr (hs.push r) hw he (by omega) hp hpo.1 (by omega) hin
      simp only [W.v, rowW, Sl.v] at hpe
      rw [firstAt_get hp]
      by_cases h0 : passE w p (l.take j) = 0
      · rw [if_pos h0]
        have hpin := (passE_in hw hpo.1 (by omega) h0).1
        simp (maxSteps := 1000000) only [go_sem, b_r_CheckPlan_l0, b_r_CheckPlan_r0, h1, h2, h6, hs, lt_dec hj, hpe, h0, ne_eq, not_true, wrap_succ hj (show (l.length : Int) < _ by omega), Nat.reduceEqDiff, reduceCtorEq, Nat.reduceAdd, Nat.reduceMul, Nat.reduceSub, Int.reduceLT, Int.reduceLE, Int.reduceEq, Int.reduceAdd, Int.reduceSub, Int.reduceNeg, Int.reduceToNat, Int.cast_ofNat_Int, ↓reduceIte]
        refine ih _ _ ?_
        refine ⟨h1, h2, rfl, ?_, rfl⟩
        intro y hy
        rw [take_get hp, List.mem_append] at hy
        rcases hy with hy | hy
        · exact hin y hy
        · rw [List.mem_singleton] at hy; rw [hy]; exact hpin
      · rw [if_neg h0]
        simp (maxSteps := 1000000) only [go_sem, b_r_CheckPlan_l0, b_r_CheckPlan_r0, h1, h2, h6, hs, lt_dec hj, hpe, h0, ne_eq, not_false_iff, Nat.reduceEqDiff, reduceCtorEq, Nat.reduceAdd, Nat.reduceMul, Nat.reduceSub, Int.reduceLT, Int.reduceLE, Int.reduceEq, Int.reduceAdd, Int.reduceSub, Int.reduceNeg, Int.reduceToNat, Int.cast_ofNat_Int, ↓reduceIte]
    · rintro ρ x ⟨h1, h2, h6, hin, rfl⟩
      simp (maxSteps := 1000000) only [go_sem, b_r_CheckPlan_l0, b_r_CheckPlan_r0, h1, h2, h6, hs, ge_dec, Nat.reduceEqDiff, reduceCtorEq, Nat.reduceAdd, Nat.reduceMul, Nat.reduceSub, Int.reduceLT, Int.reduceLE, Int.reduceEq, Int.reduceAdd, Int.reduceSub, Int.reduceNeg, Int.reduceToNat, Int.cast_ofNat_Int, ↓reduceIte]
      rw [List.drop_length]; rfl
  rw [callL_go (show AP 30 = some c_r_CheckPlan from rfl) rfl]
  simp (maxSteps := 1000000) only [go_sem, b_r_CheckPlan, hs, Nat.reduceEqDiff, reduceCtorEq, Nat.reduceAdd, Nat.reduceMul, Nat.reduceSub, Int.reduceLT, Int.reduceLE, Int.reduceEq, Int.reduceAdd, Int.reduceSub, Int.reduceNeg, Int.reduceToNat, Int.cast_ofNat_Int, ↓reduceIte]
  refine Eq.trans (key 0 _ _ (Nat.zero_le _) ?_) ?_
  · exact ⟨rfl, rfl, rfl, fun y hy => absurd hy (by simp), rfl⟩
  · rw [List.drop_zero]; unfold chkE
    cases firstAt (fun i x => passE w x (l.take i)) 0 l with
    | none => rfl
    | some q => rfl
end
end Go.Ax.Sx.Sc

namespace Go.Ax.Sx.Sc
open Go.Ax
set_option linter.unusedSimpArgs false
set_option linter.unusedVariables false
set_option maxRecDepth 100000

section
variable {s : Sig} {w : W}

theorem b_CopyInts_ro {m : Sig} {l : List Int} {o : Own} {e : Nat} (he : l = [] ∨ e = 1) (hl : l.length ≤ 4294967296) :
    callL AP (.fn 28) [.slice o e (l.map rowI)] (roS m) = some ((cpI l).v rowI, roS m) := by
  cases hl0 : l with
  | nil =>
    rw [callL_go (show AP 28 = some c_b_CopyInts from rfl) rfl]
    simp (maxSteps := 1000000) only [go_sem, b_b_CopyInts, appendOp, List.isEmpty_nil, Nat.reduceEqDiff, reduceCtorEq, Nat.reduceAdd, Nat.reduceMul, Nat.reduceSub, Int.reduceLT, Int.reduceLE, Int.reduceEq, Int.reduceAdd, Int.reduceSub, Int.reduceNeg, Int.reduceToNat, Int.cast_ofNat_Int, ↓reduceIte]
    show some (_, ((roS m).push ⟨[], []⟩).pop) = _
    rw [pop_push]; rfl
  | cons a q =>
    rw [← hl0]
    have hn : l ≠ [] := by rw [hl0]; simp
    have he' : e = 1 := by rcases he with h | h; exact absurd h hn; exact h
    subst he'
    have hlen : (roS m).acts.length = m.acts.length := rfl
    have ha : appendOp ((roS m).push ⟨[], []⟩) 1 (.slice .full 1 []) (.slice o 1 (l.map rowI)) = some (.slice (.tok m.acts.length 0) 1 (l.map rowI), (roS m).push ⟨[], [some l.length]⟩) := by
      have h3 := ntok_push (roS m) ⟨[], []⟩
      have h4 := addTok_push (roS m) ⟨[], []⟩ l.length
      rw [hlen] at h3 h4
      have h5 : ((roS m).push ⟨[], []⟩).cur = m.acts.length := by rw [cur_push, hlen]
      simp [appendOp, Own.isNil, most, hl, hn, h3, h4, h5]
    rw [callL_go (show AP 28 = some c_b_CopyInts from rfl) rfl]
    simp (maxSteps := 1000000) only [go_sem, b_b_CopyInts, ha, Nat.reduceEqDiff, reduceCtorEq, Nat.reduceAdd, Nat.reduceMul, Nat.reduceSub, Int.reduceLT, Int.reduceLE, Int.reduceEq, Int.reduceAdd, Int.reduceSub, Int.reduceNeg, Int.reduceToNat, Int.cast_ofNat_Int, ↓reduceIte]
    rw [hl0]; rfl

def cP (p : P) : P := ⟨p.req, p.start, cpI p.an.l⟩
/-- a plan that was copied -/
def cPl (l : List P) : Sl P := acS 3 (l.map cP)

theorem cPl_l {l : List P} : (cPl l).l = l.map cP := by unfold cPl; cases l <;> rfl

/-- a copy of a plan, to which the caller may append -/
theorem r_Copy {l : List P} {o : Own} {e : Nat} {Q : Sig} {tk : List (Option Nat)} (hQ : Ok Q) (hl : PlOk l) (he : l = [] ∨ e = 3) :
    ∃ x og tk', (∀ bx, callL AP (.fn 9) [.slice o e (l.map rowP)] (Q.push ⟨bx, tk⟩) = some (x, Q.push ⟨bx, tk'⟩)) ∧ Acc Q.acts.length 3 ((l.map cP).map rowP) x og tk' ∧ (tk' = tk ∨ tk' = tk ++ [some l.length]) := by
  have hlen := hl.len
  have hs : ∀ bx, Ok (Q.push ⟨bx, tk⟩) := fun bx => hQ.push _
  have hal : ∀ bx, (Q.push ⟨bx, tk⟩).acts.length = Q.acts.length + 1 := fun bx => by simp [Sig.push]
  have loop : ∀ bx, ∀ (k : Nat) ρ m, k ≤ l.length → (ρ 0 = .slice o e (l.map rowP) ∧ ρ 4 = I k ∧ ∃ x og tks, Acc (Q.push ⟨bx, tk⟩).acts.length 3 (((l.take k).map cP).map rowP) x og tks ∧ ρ 3 = x ∧ m = (Q.push ⟨bx, tk⟩).push ⟨[], tks⟩) →
      go AP f_r_Copy (.c (.loop b_r_Copy_l0) :: k_r_Copy_0) ⟨ρ, m⟩ = some (if l = [] then .slice .nilS 0 [] else .slice (.tok Q.acts.length tk.length) 3 ((l.map cP).map rowP), if l = [] then Q.push ⟨bx, tk⟩ else Q.push ⟨bx, tk ++ [some l.length]⟩) := by
    intro bx
    refine loop_up l.length _ _ ?_ ?_
    · rintro k ρ m hk ⟨h0, h4, x, og, tks, hA, h3, rfl⟩ ih
      obtain ⟨p, hp⟩ := get_some hk
      have hec : e = 3 := by rcases he with h | h; (rw [h] at hp; simp at hp); exact h
      subst hec
      have hpo := hl.ok p (List.mem_of_getElem? hp)
      have hix := ix_map (f := rowP) (o := o) (es := 3) hp
      have hcp : ∀ m : Sig, callL AP (.fn 28) [.slice p.an.o p.an.e (p.an.l.map rowI)] (roS m) = some ((cpI p.an.l).v rowI, roS m) := fun m => b_CopyInts_ro hpo.1.1 (by omega)
      have hll : (l.take k).length ≤ 14 := by rw [List.length_take]; omega
      obtain ⟨x', og', tk2, ha1, ha2, ha3, ha4⟩ := hA.append (hs bx) .full (ys := [rowP (cP p)]) (by simp) (by simp; omega)
      obtain ⟨oa', ea', ra', rfl⟩ := Acc.sl hA
      obtain ⟨os', es', rs', rfl⟩ := Acc.sl ha2
      have hcl : closeAll [I p.req, I p.start, (cpI p.an.l).v rowI] = some (rowP (cP p)) := by
        simp only [closeAll_cons, closeAll_nil, close_int, Sl.close (f := rowI) (cpI_ok (l := p.an.l))]; rfl
      simp only [rowP, Sl.v, cP] at ha1 hcl hcp
      simp (maxSteps := 1000000) only [go_sem, b_r_Copy_l0, b_r_Copy_r0, h0, h3, h4, hs, lt_dec hk, hix, hcp, hcl, ha1, wrap_succ hk (show (l.length : Int) < _ by omega), Nat.reduceEqDiff, reduceCtorEq, Nat.reduceAdd, Nat.reduceMul, Nat.reduceSub, Int.reduceLT, Int.reduceLE, Int.reduceEq, Int.reduceAdd, Int.reduceSub, Int.reduceNeg, Int.reduceToNat, Int.cast_ofNat_Int, ↓reduceIte]
      refine ih _ _ ?_
      refine ⟨h0, rfl, _, og', tk2, ?_, rfl, rfl⟩
      rw [take_get hp, List.map_append, List.map_append]; exact ha2
    · rintro ρ m ⟨h0, h4, x, og, tks, hA, h3, rfl⟩
      rw [List.take_length] at hA
      cases og with
      | none =>
        obtain ⟨hA1, rfl⟩ := hA
        have hl0 : l = [] := by simpa using hA1
        rw [if_pos hl0, if_pos hl0]
        simp (maxSteps := 1000000) only [go_sem, b_r_Copy_l0, b_r_Copy_r0, h0, h3, h4, hs, ge_dec, Nat.reduceEqDiff, reduceCtorEq, Nat.reduceAdd, Nat.reduceMul, Nat.reduceSub, Int.reduceLT, Int.reduceLE, Int.reduceEq, Int.reduceAdd, Int.reduceSub, Int.reduceNeg, Int.reduceToNat, Int.cast_ofNat_Int, ↓reduceIte]
      | some g =>
        obtain ⟨hA1, rfl, hA3⟩ := hA
        have hl0 : ¬ l = [] := by intro h; apply hA1; rw [h]; rfl
        rw [if_neg hl0, if_neg hl0]
        have hown := own_push (Q := Q) (R := ⟨bx, tk⟩) (r0 := ⟨[], tks⟩) (g := g) (es := 3) (xs := (l.map cP).map rowP) hQ hA3
        rw [hal] at h3
        simp (maxSteps := 1000000) only [go_sem, b_r_Copy_l0, b_r_Copy_r0, h0, h3, h4, hs, ge_dec, Nat.reduceEqDiff, reduceCtorEq, Nat.reduceAdd, Nat.reduceMul, Nat.reduceSub, Int.reduceLT, Int.reduceLE, Int.reduceEq, Int.reduceAdd, Int.reduceSub, Int.reduceNeg, Int.reduceToNat, Int.cast_ofNat_Int, ↓reduceIte]
        refine hown.trans ?_
        rw [List.length_map, List.length_map]
  have run : ∀ bx, callL AP (.fn 9) [.slice o e (l.map rowP)] (Q.push ⟨bx, tk⟩) = some (if l = [] then .slice .nilS 0 [] else .slice (.tok Q.acts.length tk.length) 3 ((l.map cP).map rowP), if l = [] then Q.push ⟨bx, tk⟩ else Q.push ⟨bx, tk ++ [some l.length]⟩) := by
    intro bx
    rw [callL_go (show AP 9 = some c_r_Copy from rfl) rfl]
    simp (maxSteps := 1000000) only [go_sem, b_r_Copy, hs, Nat.reduceEqDiff, reduceCtorEq, Nat.reduceAdd, Nat.reduceMul, Nat.reduceSub, Int.reduceLT, Int.reduceLE, Int.reduceEq, Int.reduceAdd, Int.reduceSub, Int.reduceNeg, Int.reduceToNat, Int.cast_ofNat_Int, ↓reduceIte]
    refine loop bx 0 _ _ (Nat.zero_le _) ?_
    exact ⟨rfl, rfl, _, none, [], Acc.start, rfl, rfl⟩
  by_cases hl0 : l = []
  · refine ⟨.slice .nilS 0 [], none, tk, fun bx => ?_, ⟨by rw [hl0]; rfl, rfl⟩, .inl rfl⟩
    rw [run bx, if_pos hl0, if_pos hl0]
  · refine ⟨.slice (.tok Q.acts.length tk.length) 3 ((l.map cP).map rowP), some tk.length, tk ++ [some l.length], fun bx => ?_, ⟨by simpa using hl0, rfl, by simp⟩, .inr rfl⟩
    rw [run bx, if_neg hl0, if_neg hl0]

theorem acc_val {d es : Nat} {xs : List (List AV)} {x : AV} {og : Option Nat} {tk : List (Option Nat)} (h : Acc d es xs x og tk) : ∃ o e, x = .slice o e xs ∧ (xs = [] ∨ e = es) := by
  cases og with
  | none => obtain ⟨h1, h2⟩ := h; subst h1; exact ⟨_, _, h2, .inl rfl⟩
  | some g => exact ⟨_, _, h.2.1, .inr rfl⟩

theorem r_PlanErr {l : List P} {o : Own} {e : Nat} (hs : Ok s) (hw : w.Ok) (hf : w.Few) (hl : PlOk l) (he : l = [] ∨ e = 3) : callL AP (.fn 10) [w.v, .slice o e (l.map rowP)] s = some (I (planE w l).2, s) := by
  have hwe : ∀ r, callL AP (.fn 29) [w.v] (s.push r) = some (I (weekE w).2.2, s.push r) := fun r => r_WeekErr (hs.push r) hw hf
  rw [callL_go (show AP 10 = some c_r_PlanErr from rfl) rfl]
  unfold planE
  by_cases h0 : (weekE w).2.2 = 0
  · have hwk : Wk w := ⟨hw, hf, weekE_ok h0⟩
    have hcp : ∀ r, callL AP (.fn 30) [w.v, .slice o e (l.map rowP)] (s.push r) = some (.tuple [I (chkE w l).1, I (chkE w l).2], s.push r) := fun r => r_CheckPlan (hs.push r) hwk hl he
    simp only [W.v, rowW, Sl.v] at hwe hcp
    rw [if_pos h0]
    simp (maxSteps := 1000000) only [go_sem, b_r_PlanErr, hs, hwe, hcp, h0, ne_eq, not_true, Nat.reduceEqDiff, reduceCtorEq, Nat.reduceAdd, Nat.reduceMul, Nat.reduceSub, Int.reduceLT, Int.reduceLE, Int.reduceEq, Int.reduceAdd, Int.reduceSub, Int.reduceNeg, Int.reduceToNat, Int.cast_ofNat_Int, ↓reduceIte]
  · simp only [W.v, rowW, Sl.v] at hwe
    rw [if_neg h0]
    simp (maxSteps := 1000000) only [go_sem, b_r_PlanErr, hs, hwe, h0, ne_eq, not_false_iff, Nat.reduceEqDiff, reduceCtorEq, Nat.reduceAdd, Nat.reduceMul, Nat.reduceSub, Int.reduceLT, Int.reduceLE, Int.reduceEq, Int.reduceAdd, Int.reduceSub, Int.reduceNeg, Int.reduceToNat, Int.cast_ofNat_Int, ↓reduceIte]

def shortB (l : List P) : Bool := decide (l.length ≤ 14) && l.all fun p => decide (p.an.l.length ≤ 6)
/-- What a plan's slices are before short was asked. -/
structure PBig (l : List P) : Prop where
  len : (l.length : Int) < 9223372036854775808
  ok : ∀ p ∈ l, p.an.ok 1
  an : ∀ p ∈ l, (p.an.l.length : Int) < 9223372036854775808
theorem shortB_ok {l : List P} (hb : PBig l) (h : shortB l = true) : PlOk l := by
  simp only [shortB, Bool.and_eq_true, decide_eq_true_eq, List.all_eq_true] at h
  exact ⟨h.1, fun p hp => ⟨hb.ok p hp, h.2 p hp⟩⟩

theorem l_short {l : List P} {o : Own} {e : Nat} (hb : PBig l) (he : l = [] ∨ e = 3) : callL AP (.fn 6) [.slice o e (l.map rowP)] s = some (B (shortB l), s) := by
  have h14 : decide ((14 : Int) < (l.length : Int)) = !decide (l.length ≤ 14) := dec_not (by omega)
  have key : ∀ (k : Nat) ρ m, k ≤ l.length → (ρ 0 = .slice o e (l.map rowP) ∧ ρ 3 = I k ∧ m = s.push ⟨[], []⟩) →
      go AP f_l_short (.c (.loop b_l_short_l0) :: k_l_short_0) ⟨ρ, m⟩ = some (B ((l.drop k).all fun p => decide (p.an.l.length ≤ 6)), s) := by
    refine loop_up l.length _ _ ?_ ?_
    · rintro k ρ m hk ⟨h0, h3, rfl⟩ ih
      obtain ⟨p, hp⟩ := get_some hk
      have hec : e = 3 := by rcases he with h | h; (rw [h] at hp; simp at hp); exact h
      subst hec
      have hix := ix_map (f := rowP) (o := o) (es := 3) hp
      have hpb := hb.an p (List.mem_of_getElem? hp)
      have h6 : decide ((6 : Int) < (p.an.l.length : Int)) = !decide (p.an.l.length ≤ 6) := dec_not (by omega)
      simp only [rowP, Sl.v] at hix
      rw [all_get hp]
      cases hd : decide (p.an.l.length ≤ 6) with
      | false => simp (maxSteps := 1000000) only [go_sem, b_l_short_l0, b_l_short_r0, h0, h3, lt_dec hk, hix, h6, hd, Bool.not_false, Bool.false_and, Nat.reduceEqDiff, reduceCtorEq, Nat.reduceAdd, Nat.reduceMul, Nat.reduceSub, Int.reduceLT, Int.reduceLE, Int.reduceEq, Int.reduceAdd, Int.reduceSub, Int.reduceNeg, Int.reduceToNat, Int.cast_ofNat_Int, ↓reduceIte]
      | true =>
        simp (maxSteps := 1000000) only [go_sem, b_l_short_l0, b_l_short_r0, h0, h3, lt_dec hk, hix, h6, hd, Bool.not_true, wrap_succ hk hb.len, Nat.reduceEqDiff, reduceCtorEq, Nat.reduceAdd, Nat.reduceMul, Nat.reduceSub, Int.reduceLT, Int.reduceLE, Int.reduceEq, Int.reduceAdd, Int.reduceSub, Int.reduceNeg, Int.reduceToNat, Int.cast_ofNat_Int, ↓reduceIte]
        exact ih _ _ ⟨h0, rfl, rfl⟩
    · rintro ρ m ⟨h0, h3, rfl⟩
      simp (maxSteps := 1000000) only [go_sem, b_l_short_l0, b_l_short_r0, h0, h3, ge_dec, Nat.reduceEqDiff, reduceCtorEq, Nat.reduceAdd, Nat.reduceMul, Nat.reduceSub, Int.reduceLT, Int.reduceLE, Int.reduceEq, Int.reduceAdd, Int.reduceSub, Int.reduceNeg, Int.reduceToNat, Int.cast_ofNat_Int, ↓reduceIte]
      rw [List.drop_length]; rfl
  rw [callL_go (show AP 6 = some c_l_short from rfl) rfl]
  unfold shortB
  cases hd : decide (l.length ≤ 14) with
  | false => simp (maxSteps := 1000000) only [go_sem, b_l_short, h14, hd, Bool.not_false, Bool.false_and, Nat.reduceEqDiff, reduceCtorEq, Nat.reduceAdd, Nat.reduceMul, Nat.reduceSub, Int.reduceLT, Int.reduceLE, Int.reduceEq, Int.reduceAdd, Int.reduceSub, Int.reduceNeg, Int.reduceToNat, Int.cast_ofNat_Int, ↓reduceIte]
  | true =>
    simp (maxSteps := 1000000) only [go_sem, b_l_short, h14, hd, Bool.not_true, Nat.reduceEqDiff, reduceCtorEq, Nat.reduceAdd, Nat.reduceMul, Nat.reduceSub, Int.reduceLT, Int.reduceLE, Int.reduceEq, Int.reduceAdd, Int.reduceSub, Int.reduceNeg, Int.reduceToNat, Int.cast_ofNat_Int, ↓reduceIte]
    exact key 0 _ _ (Nat.zero_le _) ⟨rfl, rfl, rfl⟩
end
end Go.Ax.Sx.Sc

namespace Go.Ax.Sx.Sc
open Go.Ax
set_option linter.unusedSimpArgs false
set_option linter.unusedVariables false
set_option maxRecDepth 100000

/-! What the words say of a week and a plan does not hang on where their slices lie. -/
section
variable {w : W}

theorem cW_slots : (cW w).slots = w.slots := rfl
theorem cW_len : (cW w).rs.l.length = w.rs.l.length := by rw [cW_rs, List.length_map]
theorem cW_rq {i : Int} (h0 : 0 ≤ i) (h1 : i < w.rs.l.length) : (cW w).rq i = cR (w.rq i) := by
  unfold W.rq
  rw [cW_rs, List.getElem?_map]
  obtain ⟨x, hx⟩ := get_some (l := w.rs.l) (k := i.toNat) (by omega)
  rw [hx]; rfl
theorem cW_stp {a : Int} : (cW w).stp a = w.stp a := by
  unfold W.stp
  rw [cW_as, List.getElem?_map]
  cases w.as.l[a.toNat]? <;> rfl
theorem openB_c {a st n : Int} : openB (cW w) a st n = openB w a st n := by
  unfold openB
  rw [cW_as, List.getElem?_map]
  cases w.as.l[a.toNat]? <;> rfl
theorem endP_c {p : P} (h0 : 0 ≤ p.req) (h1 : p.req < w.rs.l.length) : endP (cW w) (cP p) = endP w p := by
  unfold endP
  rw [show (cP p).req = p.req from rfl, cW_rq h0 h1]; rfl
theorem clash_c {a b : P} (ha0 : 0 ≤ a.req) (ha1 : a.req < w.rs.l.length) (hb0 : 0 ≤ b.req) (hb1 : b.req < w.rs.l.length) : clash (cW w) (cP a) (cP b) = clash w a b := by
  unfold clash
  simp only [endP_c ha0 ha1, show (cP a).req = a.req from rfl, show (cP b).req = b.req from rfl, cW_rq ha0 ha1, cW_rq hb0 hb1, cW_stp]
  rfl
theorem conf_c {a b : P} (ha0 : 0 ≤ a.req) (ha1 : a.req < w.rs.l.length) (hb0 : 0 ≤ b.req) (hb1 : b.req < w.rs.l.length) : conf (cW w) (cP a) (cP b) = conf w a b := by
  unfold conf
  rw [clash_c ha0 ha1 hb0 hb1, clash_c hb0 hb1 ha0 ha1]
  rfl
theorem confs_c {p : P} {l : List P} (ha0 : 0 ≤ p.req) (ha1 : p.req < w.rs.l.length) (hl : ∀ x ∈ l, 0 ≤ x.req ∧ x.req < w.rs.l.length) : confs (cW w) (cP p) (l.map cP) = confs w p l := by
  unfold confs
  rw [List.any_map]
  rw [Bool.eq_iff_iff]
  simp only [List.any_eq_true, Function.comp]
  constructor
  · rintro ⟨x, hx, h⟩; exact ⟨x, hx, by rwa [conf_c (hl x hx).1 (hl x hx).2 ha0 ha1] at h⟩
  · rintro ⟨x, hx, h⟩; exact ⟨x, hx, by rwa [conf_c (hl x hx).1 (hl x hx).2 ha0 ha1]⟩
theorem lastR_c {l : List P} : lastR (l.map cP) = lastR l := by
  unfold lastR
  rw [List.getLast?_map]
  cases l.getLast? <;> rfl
theorem anE_c {r : R} : ∀ {l : List Int} {k : Int}, anE (cR r) k l = anE r k l
  | [], _ => rfl
  | a :: t, k => by simp only [anE, anE_c (l := t)]; rfl
theorem passE_c {p : P} {l : List P} (hl : ∀ x ∈ l, 0 ≤ x.req ∧ x.req < w.rs.l.length) : passE (cW w) (cP p) (l.map cP) = passE w p l := by
  unfold passE
  rw [lastR_c, cW_len, show (cP p).req = p.req from rfl, show (cP p).start = p.start from rfl, show (cP p).an.l = p.an.l from rfl]
  by_cases h1 : wi p.req 0 (w.rs.l.length - 1) = true
  · obtain ⟨h0, h2⟩ := wi_iff.1 h1
    rw [confs_c h0 (by omega) hl, cW_rq h0 (by omega)]
    simp only [anE_c, openB_c]
    rfl
  · rw [if_neg h1, if_neg h1]

theorem passE_r {p : P} {l : List P} (h : passE w p l = 0) : 0 ≤ p.req ∧ p.req < w.rs.l.length := by
  unfold passE at h
  by_cases h1 : wi p.req 0 (w.rs.l.length - 1) = true
  · obtain ⟨h0, h2⟩ := wi_iff.1 h1
    exact ⟨h0, by omega⟩
  · rw [if_neg h1] at h; exact absurd h (by decide)

theorem first_c {l : List P} : ∀ (n k : Nat), n + k = l.length → (∀ x ∈ l.take k, 0 ≤ x.req ∧ x.req < w.rs.l.length) →
    firstAt (fun i x => passE (cW w) x ((l.map cP).take i)) k ((l.map cP).drop k) = firstAt (fun i x => passE w x (l.take i)) k (l.drop k)
  | 0, k, h, _ => by
    have h1 : l.drop k = [] := List.drop_of_length_le (by omega)
    have h2 : (l.map cP).drop k = [] := List.drop_of_length_le (by rw [List.length_map]; omega)
    rw [h1, h2]; rfl
  | n + 1, k, h, hl => by
    obtain ⟨p, hp⟩ := get_some (l := l) (k := k) (by omega)
    have hp2 : (l.map cP)[k]? = some (cP p) := by rw [List.getElem?_map, hp]; rfl
    rw [firstAt_get hp, firstAt_get hp2]
    simp only [← List.map_take]
    rw [passE_c hl]
    by_cases h0 : passE w p (l.take k) = 0
    · rw [if_pos h0, if_pos h0]
      have := first_c (l := l) n (k + 1) (by omega) (fun x hx => by
        rw [take_get hp, List.mem_append] at hx
        rcases hx with hx | hx
        · exact hl x hx
        · rw [List.mem_singleton] at hx; rw [hx]; exact passE_r h0)
      simp only [← List.map_take] at this
      exact this
    · rw [if_neg h0, if_neg h0]

theorem chkE_c {l : List P} : chkE (cW w) (l.map cP) = chkE w l := by
  unfold chkE
  have := first_c (w := w) (l := l) l.length 0 (by omega) (fun x hx => absurd hx (by simp))
  rw [List.drop_zero, List.drop_zero] at this
  rw [this]
theorem planE_c {l : List P} : planE (cW w) (l.map cP) = planE w l := by
  unfold planE; rw [weekE_c, chkE_c]
theorem valP_c : ∀ {l : List P}, (∀ x ∈ l, 0 ≤ x.req ∧ x.req < w.rs.l.length) → valP (cW w) (l.map cP) = valP w l
  | [], _ => rfl
  | p :: r, h => by
    have hp := h p (by simp)
    simp only [List.map_cons, valP]
    rw [valP_c fun x hx => h x (List.mem_cons_of_mem _ hx), show (cP p).req = p.req from rfl, cW_rq hp.1 hp.2]; rfl
theorem cP_ok {l : List P} (hl : PlOk l) : PlOk (l.map cP) := by
  refine ⟨by rw [List.length_map]; exact hl.len, fun p hp => ?_⟩
  obtain ⟨q, hq, rfl⟩ := List.mem_map.1 hp
  exact ⟨cpI_ok, (hl.ok q hq).2⟩
end
end Go.Ax.Sx.Sc

namespace Go.Ax.Sx.Sc
open Go.Ax
set_option linter.unusedSimpArgs false
set_option linter.unusedVariables false
set_option maxRecDepth 100000

section
variable {s : Sig} {w : W}

theorem grps_short : ∀ {k : Nat} {l : List Int}, l.length < k → grps k l = []
  | 0, _, h => absurd h (Nat.not_lt_zero _)
  | k + 1, [], _ => rfl
  | k + 1, x :: r, h => by
    simp only [grps]
    rw [grps_short (k := k) (l := r) (by simp at h; omega), grps_short (k := k + 1) (l := r) (by simp at h; omega)]; rfl
/-- A set of the reference, as it lies. -/
def stS (n : Nat) (g : List Int) : Sl Int := ⟨if n = 1 then .full else .any, 1, g⟩
theorem stS_ok {n : Nat} {g : List Int} : (stS n g).ok 1 := by
  refine ⟨.inr rfl, ?_⟩
  show (if n = 1 then Own.full else Own.any) = .any ∨ (if n = 1 then Own.full else Own.any) = .full ∨ _
  split
  · exact .inr (.inl rfl)
  · exact .inl rfl
/-- The reference's sets, as they lie. -/
def chV : Nat → List Int → AV
  | 0, _ => .slice .full 1 [[.slice .nilS 0 []]]
  | n + 1, l => accV 1 ((grps (n + 1) l).map fun g => [(stS (n + 1) g).v rowI])

theorem chV_len {n : Nat} {l : List Int} : lenOp false (chV n l) = some (I (grps n l).length) := by
  cases n with
  | zero => simp only [chV, grps]; rfl
  | succ n =>
    show lenOp false (accV 1 ((grps (n + 1) l).map fun g => [(stS (n + 1) g).v rowI])) = _
    rw [len_acc, List.length_map]
theorem chV_ix {n : Nat} {l g : List Int} {k : Nat} (h : (grps n l)[k]? = some g) : ∃ o e, indexAddrOp none 1 (chV n l) (I k) = some (.eptr [.slice o e (g.map rowI)] 0) ∧ (g = [] ∨ e = 1) ∧ (g = [] ↔ n = 0) := by
  have hg := grps_len (List.mem_of_getElem? h)
  cases n with
  | zero =>
    have hk : k = 0 := by
      have := (List.getElem?_eq_some_iff.1 h).1
      simp [grps] at this; exact this
    subst hk
    have : g = [] := List.eq_nil_of_length_eq_zero hg
    subst this
    exact ⟨.nilS, 0, rfl, .inl rfl, by simp⟩
  | succ n =>
    refine ⟨_, 1, ix_acc (by rw [List.getElem?_map, h]; rfl), .inr rfl, ?_⟩
    constructor
    · intro e; rw [e] at hg; simp at hg
    · intro e; omega

theorem app_lit {q : Sig} {b : List (List AV)} {tk : List (Option Nat)} {lit ys : List (List AV)} {o : Own} {e : Nat} (he : ys = [] ∨ e = 1) (hl : lit.length + ys.length ≤ 4294967296) :
    ∃ o' tk', (∀ b, appendOp (q.push ⟨b, tk⟩) 1 (.slice .full 1 lit) (.slice o e ys) = some (.slice o' 1 (lit ++ ys), q.push ⟨b, tk'⟩)) ∧ (∀ (g : Nat) (n : Option Nat), tk[g]? = some n → tk'[g]? = some n) ∧
      (AV.slice o' 1 (lit ++ ys)).close = some (.slice (if ys = [] then .full else .any) 1 (lit ++ ys)) := by
  by_cases h0 : ys = []
  · subst h0
    refine ⟨.full, tk, fun b => by simp [appendOp], fun _ _ h => h, ?_⟩
    simp only [List.append_nil, if_pos]; rfl
  · have he' : e = 1 := by rcases he with h | h; exact absurd h h0; exact h
    subst he'
    have h1 : ys.isEmpty = false := by simpa using h0
    refine ⟨.tok q.acts.length tk.length, tk ++ [some (lit.length + ys.length)], fun b => ?_, fun g n h => ?_, ?_⟩
    · simp [appendOp, h1, Own.isNil, most, hl, ntok_push, addTok_push, cur_push]
    · have := (List.getElem?_eq_some_iff.1 h).1
      rw [List.getElem?_append_left this]; exact h
    · rw [if_neg h0]; rfl

theorem r_choices : ∀ (n : Nat) {s : Sig} {l : List Int} {o : Own} {e : Nat}, Ok s → (l = [] ∨ e = 1) → l.length ≤ 6 → n ≤ 6 → callL AP (.fn 50) [.slice o e (l.map rowI), I n] s = some (chV n l, s)
  | 0, s, l, o, e, hs, he, hl, _ => by
    rw [callL_go (show AP 50 = some c_r_choices from rfl) rfl]
    simp (maxSteps := 1000000) only [go_sem, b_r_choices, hs, Nat.reduceEqDiff, reduceCtorEq, Nat.reduceAdd, Nat.reduceMul, Nat.reduceSub, Int.reduceLT, Int.reduceLE, Int.reduceEq, Int.reduceAdd, Int.reduceSub, Int.reduceNeg, Int.reduceToNat, Int.cast_ofNat_Int, ↓reduceIte]
    rfl
  | n + 1, s, l, o, e, hs, he, hl, hn => by
    have hn0 : decide (((n + 1 : Nat) : Int) = 0) = false := by simp; omega
    have hsub : IntKind.i64.wrap (((n + 1 : Nat) : Int) - 1) = (n : Int) := by rw [wrap_id (by omega) (by omega)]; omega
    have outer : ∀ (i : Int) ρ m, (∃ k : Nat, i = k ∧ ρ 0 = .slice o e (l.map rowI) ∧ ρ 1 = I ((n + 1 : Nat) : Int) ∧ ρ 6 = I k ∧ ∃ D x og tk, k ≤ l.length ∧ grps (n + 1) l = D ++ grps (n + 1) (l.drop k) ∧ Acc s.acts.length 1 (D.map fun g => [(stS (n + 1) g).v rowI]) x og tk ∧ ρ 5 = x ∧ m = s.push ⟨[], tk⟩) →
        go AP f_r_choices (.c (.loop b_r_choices_l0) :: k_r_choices_0) ⟨ρ, m⟩ = some (chV (n + 1) l, s) := by
      refine loop_upto (l.length - (n + 1) : Int) _ _ ?_ ?_
      · rintro i ρ m hi ⟨k, rfl, h0, h1, h6, D, x, og, tk, hk, hD, hA, h5, rfl⟩ ih
        obtain ⟨a, ha⟩ := get_some (l := l) (k := k) (by omega)
        have hec : e = 1 := by rcases he with h | h; (rw [h] at ha; simp at ha); exact h
        subst hec
        have hix := ix_map (f := rowI) (o := o) (es := 1) ha
        obtain ⟨od, hsl⟩ := slice_drop (f := rowI) (o := o) (es := 1) (k := k + 1) (l := l) (by omega)
        have hle : decide (IntKind.i64.wrap ((k : Int) + ((n + 1 : Nat) : Int)) ≤ (l.length : Int)) = true := by
          rw [wrap_id (by omega) (by omega)]; simp; omega
        have hwk : IntKind.i64.wrap ((k : Int) + 1) = ((k + 1 : Nat) : Int) := by rw [wrap_id (by omega) (by omega)]; omega
        have hrec : ∀ r, callL AP (.fn 50) [.slice od 1 ((l.drop (k + 1)).map rowI), I n] (s.push r) = some (chV n (l.drop (k + 1)), s.push r) := fun r =>
          r_choices n (hs.push r) (.inr rfl) (by rw [List.length_drop]; omega) (by omega)
        have hG : grps (n + 1) (l.drop k) = (grps n (l.drop (k + 1))).map (a :: ·) ++ grps (n + 1) (l.drop (k + 1)) := by
          rw [drop_get ha]; rfl
        have hcnt := grps_count (k := n) (l := l.drop (k + 1))
        have inner : ∀ (j : Nat) ρ m, j ≤ (grps n (l.drop (k + 1))).length → (ρ 0 = .slice o 1 (l.map rowI) ∧ ρ 1 = I ((n + 1 : Nat) : Int) ∧ ρ 6 = I k ∧ ρ 7 = chV n (l.drop (k + 1)) ∧ ρ 8 = I j ∧ ∃ x og tk, Acc s.acts.length 1 ((D ++ ((grps n (l.drop (k + 1))).take j).map (a :: ·)).map fun g => [(stS (n + 1) g).v rowI]) x og tk ∧ ρ 5 = x ∧ m = s.push ⟨[], tk⟩) →
            go AP f_r_choices (.c (.loop b_r_choices_l1) :: k_r_choices_1) ⟨ρ, m⟩ = some (chV (n + 1) l, s) := by
          refine loop_up _ _ _ ?_ ?_
          · rintro j ρ m hj ⟨g0, g1, g6, g7, g8, x, og, tk, hA, g5, rfl⟩ ih2
            obtain ⟨g, hg⟩ := get_some hj
            obtain ⟨oi, ei, hi2, hei, hgn⟩ := chV_ix hg
            have hcn64 : (grps n (l.drop (k + 1))).length ≤ 64 := Nat.le_trans hcnt (Nat.pow_le_pow_right (show 0 < 2 by omega) (show (l.drop (k + 1)).length ≤ 6 by rw [List.length_drop]; omega))
            have hcn : ((grps n (l.drop (k + 1))).length : Int) < 9223372036854775808 := by omega
            have hsp : D ++ ((grps n (l.drop (k + 1))).take (j + 1)).map (a :: ·) = (D ++ ((grps n (l.drop (k + 1))).take j).map (a :: ·)) ++ [a :: g] := by
              rw [take_get hg, List.map_append, List.append_assoc]; rfl
            have htl : ((grps n (l.drop (k + 1))).take j).length ≤ 64 := by rw [List.length_take]; omega
            have hgl := grps_len (List.mem_of_getElem? hg)
            obtain ⟨o1, tk1, ha1, ha2, ha3⟩ := app_lit (q := s) (b := []) (tk := tk) (lit := [[I a]]) (ys := g.map rowI) (o := oi) (e := ei) (by rcases hei with h | h; exact .inl (by rw [h]; rfl); exact .inr h) (by simp; omega)
            have hst : (AV.slice o1 1 ([[I a]] ++ g.map rowI)).close = some ((stS (n + 1) (a :: g)).v rowI) := by
              rw [ha3]
              have : (if g.map rowI = [] then Own.full else Own.any) = (if n + 1 = 1 then Own.full else Own.any) := by
                by_cases hn0 : n = 0
                · rw [if_pos (by rw [hgn.2 hn0]; rfl), if_pos (by omega)]
                · rw [if_neg (by intro h; exact hn0 (hgn.1 (by simpa using h))), if_neg (by omega)]
              rw [this]; rfl
            have hcl : closeAll [.slice o1 1 ([I a] :: g.map rowI)] = some [(stS (n + 1) (a :: g)).v rowI] := by
              simp only [closeAll_cons, closeAll_nil, List.cons_append, List.nil_append] at hst ⊢
              rw [hst]; rfl
            have hA1 := Acc.ext hA ha2
            have hDl : D.length ≤ 64 := by
              have h1 := grps_count (k := n + 1) (l := l)
              have h2 := Nat.pow_le_pow_right (show 0 < 2 by omega) hl
              rw [hD, List.length_append] at h1
              omega
            obtain ⟨x2, og2, tk2, hb1, hb2, hb3, hb4⟩ := hA1.append hs .full (ys := [[(stS (n + 1) (a :: g)).v rowI]]) (by simp) (by rw [List.length_map, List.length_append, List.length_map, List.length_singleton]; omega)
            obtain ⟨oa, ea, ra, rfl⟩ := Acc.sl hA
            obtain ⟨ob, eb, rb, rfl⟩ := Acc.sl hb2
            simp only [List.cons_append, List.nil_append] at ha1
            simp only [Sl.v] at hb1 hcl
            simp (maxSteps := 1000000) only [go_sem, b_r_choices_l1, g0, g1, g5, g6, g7, g8, hs, chV_len, lt_dec hj, hi2, hix, ha1, hcl, hb1, wrap_succ hj hcn, Nat.reduceEqDiff, reduceCtorEq, Nat.reduceAdd, Nat.reduceMul, Nat.reduceSub, Int.reduceLT, Int.reduceLE, Int.reduceEq, Int.reduceAdd, Int.reduceSub, Int.reduceNeg, Int.reduceToNat, Int.cast_ofNat_Int, ↓reduceIte]
            refine ih2 _ _ ?_
            refine ⟨g0, g1, g6, g7, rfl, _, og2, tk2, ?_, rfl, rfl⟩
            rw [hsp, List.map_append]; exact hb2
          · rintro ρ m ⟨g0, g1, g6, g7, g8, x, og, tk, hA, g5, rfl⟩
            rw [List.take_length] at hA
            simp (maxSteps := 1000000) only [go_sem, b_r_choices_l1, b_r_choices_r1, g0, g1, g5, g6, g7, g8, hs, chV_len, ge_dec, hwk, Nat.reduceEqDiff, reduceCtorEq, Nat.reduceAdd, Nat.reduceMul, Nat.reduceSub, Int.reduceLT, Int.reduceLE, Int.reduceEq, Int.reduceAdd, Int.reduceSub, Int.reduceNeg, Int.reduceToNat, Int.cast_ofNat_Int, ↓reduceIte]
            refine ih _ _ ?_
            refine ⟨k + 1, by omega, g0, g1, rfl, _, x, og, tk, by omega, ?_, hA, g5, rfl⟩
            rw [hD, hG, List.append_assoc]
        simp (maxSteps := 1000000) only [go_sem, b_r_choices_l0, b_r_choices_r0, h0, h1, h5, h6, hs, hle, hwk, hsl, hsub, hrec, Nat.reduceEqDiff, reduceCtorEq, Nat.reduceAdd, Nat.reduceMul, Nat.reduceSub, Int.reduceLT, Int.reduceLE, Int.reduceEq, Int.reduceAdd, Int.reduceSub, Int.reduceNeg, Int.reduceToNat, Int.cast_ofNat_Int, ↓reduceIte]
        refine inner 0 _ _ (Nat.zero_le _) ?_
        refine ⟨h0, h1, h6, rfl, rfl, _, og, tk, ?_, h5, rfl⟩
        rw [List.take_zero, List.map_nil, List.append_nil]; exact hA
      · rintro i ρ m hi ⟨k, rfl, h0, h1, h6, D, x, og, tk, hk, hD, hA, h5, rfl⟩
        have hsh : grps (n + 1) (l.drop k) = [] := grps_short (by rw [List.length_drop]; omega)
        rw [hsh, List.append_nil] at hD
        have hle : decide (IntKind.i64.wrap ((k : Int) + ((n + 1 : Nat) : Int)) ≤ (l.length : Int)) = false := by
          rw [wrap_id (by omega) (by omega)]; simp; omega
        have hlv : ∀ q : Sig, leaveVal q x = some (chV (n + 1) l) := fun q => by
          show _ = some (accV 1 _)
          rw [hD]; exact hA.leave q
        obtain ⟨oa, ea, ra, rfl⟩ := Acc.sl hA
        simp (maxSteps := 1000000) only [go_sem, b_r_choices_l0, b_r_choices_r0, h0, h1, h5, h6, hs, hle, hlv, Nat.reduceEqDiff, reduceCtorEq, Nat.reduceAdd, Nat.reduceMul, Nat.reduceSub, Int.reduceLT, Int.reduceLE, Int.reduceEq, Int.reduceAdd, Int.reduceSub, Int.reduceNeg, Int.reduceToNat, Int.cast_ofNat_Int, ↓reduceIte]
    rw [callL_go (show AP 50 = some c_r_choices from rfl) rfl]
    simp (maxSteps := 1000000) only [go_sem, b_r_choices, hs, hn0, Nat.reduceEqDiff, reduceCtorEq, Nat.reduceAdd, Nat.reduceMul, Nat.reduceSub, Int.reduceLT, Int.reduceLE, Int.reduceEq, Int.reduceAdd, Int.reduceSub, Int.reduceNeg, Int.reduceToNat, Int.cast_ofNat_Int, ↓reduceIte]
    refine outer 0 _ _ ?_
    exact ⟨0, rfl, rfl, rfl, rfl, [], _, none, [], Nat.zero_le _, rfl, Acc.start, rfl, rfl⟩
end
end Go.Ax.Sx.Sc

namespace Go.Ax.Sx.Sc
open Go.Ax
set_option linter.unusedSimpArgs false
set_option linter.unusedVariables false
set_option maxRecDepth 100000

section
variable {s : Sig} {w : W}

theorem grps_filter {f : Int → Bool} : ∀ {k : Nat} {l : List Int}, (grps k l).filter (fun g => g.all f) = grps k (l.filter f)
  | 0, l => by simp [grps]
  | k + 1, [] => rfl
  | k + 1, x :: r => by
    simp only [grps, List.filter_append]
    rw [grps_filter (k := k + 1) (l := r), List.filter_map]
    cases hx : f x with
    | true =>
      rw [List.filter_cons_of_pos hx]
      simp only [grps]
      rw [← grps_filter (k := k) (l := r)]
      congr 2
      apply List.filter_congr
      intro g _
      simp [Function.comp, hx]
    | false =>
      rw [List.filter_cons_of_neg (by simp [hx])]
      rw [List.filter_eq_nil_iff.2 (by intro g _; simp [Function.comp, hx])]
      rfl

theorem chV_ixS {n : Nat} {l g : List Int} {k : Nat} (h : (grps (n + 1) l)[k]? = some g) : indexAddrOp none 1 (chV (n + 1) l) (I k) = some (.eptr [(stS (n + 1) g).v rowI] 0) :=
  ix_acc (by rw [List.getElem?_map, h]; rfl)

/-- the passes as the reference's searches lay them -/
def reS (n : Nat) (p : P) : P := ⟨p.req, p.start, stS n p.an.l⟩

theorem possAt_eq {i st : Int} : possAt w i st = ((grps (w.rq i).need.toNat (w.rq i).an.l).filter fun g => g.all fun a => openB w a st (w.rq i).len).map fun g => ⟨i, st, cpI g⟩ := by
  rw [grps_filter]; rfl

theorem r_Possible (hs : Ok s) (hw : Wk w) {i : Int} (h0 : 0 ≤ i) (h1 : i < w.rs.l.length) : callL AP (.fn 32) [w.v, I i] s = some (accV 3 (((poss w i).map (reS (w.rq i).need.toNat)).map rowP), s) := by
  have hq := hw.rq h0 h1
  have hn2 := hw.v.n2
  have hal := hw.v.al
  have hqm := W.rq_mem h0 h1
  have hqo := hw.ok.an _ hqm
  have hql := hw.few.an _ hqm
  have hlo0 := hq.lo0
  have hhin := hq.hin
  have hlohi := hq.lohi
  have hlenhi := hq.lenhi
  have hlen1 := hq.len1
  have hneed1 := hq.need1
  have hneed2 := hq.need2
  have hrs := ix_rs hw h0 h1
  obtain ⟨m, hm⟩ : ∃ m : Nat, (w.rq i).need = ((m + 1 : Nat) : Int) := ⟨((w.rq i).need - 1).toNat, by omega⟩
  have hmn : (w.rq i).need.toNat = m + 1 := by omega
  have hcnt := poss_count hw h0 h1
  have hpe : poss w i = possFrom w i (w.rq i).lo ((w.rq i).hi - (w.rq i).len + 2 - (w.rq i).lo).toNat := rfl
  have hpa : ∀ st, possAt w i st = ((grps (m + 1) (w.rq i).an.l).filter fun g => g.all fun a => openB w a st (w.rq i).len).map fun g => ⟨i, st, cpI g⟩ := fun st => by rw [possAt_eq, hmn]
  have hch : ∀ r, callL AP (.fn 50) [.slice (w.rq i).an.o (w.rq i).an.e ((w.rq i).an.l.map rowI), I (w.rq i).need] (s.push r) = some (chV (m + 1) (w.rq i).an.l, s.push r) := fun r => by
    rw [hm]; exact r_choices (m + 1) (hs.push r) hqo.1 (by omega) (by omega)
  have hanin := hq.anin
  rw [hmn]
  have hwr1 : IntKind.i64.wrap ((w.rq i).hi - (w.rq i).len) = (w.rq i).hi - (w.rq i).len := wrap_id (by omega) (by omega)
  have hwr2 : IntKind.i64.wrap ((w.rq i).hi - (w.rq i).len + 1) = (w.rq i).hi - (w.rq i).len + 1 := wrap_id (by omega) (by omega)
  generalize hqq : w.rq i = q at *
  have hsc : (grps (m + 1) q.an.l).length ≤ 64 := Nat.le_trans grps_count (Nat.pow_le_pow_right (show 0 < 2 by omega) hql)
  have outer : ∀ (st : Int) ρ x, (ρ 1 = I i ∧ ρ 2 = .ptr s.acts.length 0 0 ∧ ρ 5 = .ptr s.acts.length 1 0 ∧ ρ 6 = chV (m + 1) q.an.l ∧ ρ 8 = I st ∧ q.lo ≤ st ∧ st ≤ q.hi - q.len + 2 ∧ ∃ D y og tk bx, D ++ possFrom w i st (q.hi - q.len + 2 - st).toNat = poss w i ∧ Acc s.acts.length 3 ((D.map (reS (m + 1))).map rowP) y og tk ∧ ρ 7 = y ∧ x = s.push ⟨rowW w :: rowR q :: bx, tk⟩) →
      go AP f_r_Possible (.c (.loop b_r_Possible_l0) :: k_r_Possible_0) ⟨ρ, x⟩ = some (accV 3 (((poss w i).map (reS (m + 1))).map rowP), s) := by
    refine loop_upto (q.hi - q.len + 1) _ _ ?_ ?_
    · rintro st ρ x hst ⟨g1, g2, g5, g6, g8, hst1, hst2, D, y, og, tk, bx, hD, hA, g7, rfl⟩ ih
      have hle : decide (st ≤ q.hi - q.len + 1) = true := by simp; omega
      have hwst : IntKind.i64.wrap (st + 1) = st + 1 := wrap_id (by omega) (by omega)
      have hsucc : (q.hi - q.len + 2 - st).toNat = (q.hi - q.len + 2 - (st + 1)).toNat + 1 := by omega
      rw [hsucc] at hD
      simp only [possFrom] at hD
      have inner : ∀ (j : Nat) ρ x, j ≤ (grps (m + 1) q.an.l).length → (ρ 1 = I i ∧ ρ 2 = .ptr s.acts.length 0 0 ∧ ρ 5 = .ptr s.acts.length 1 0 ∧ ρ 6 = chV (m + 1) q.an.l ∧ ρ 8 = I st ∧ ρ 9 = I j ∧ ∃ y og tk bx, Acc s.acts.length 3 (((D ++ (((grps (m + 1) q.an.l).take j).filter fun g => g.all fun a => openB w a st q.len).map fun g => (⟨i, st, cpI g⟩ : P)).map (reS (m + 1))).map rowP) y og tk ∧ ρ 7 = y ∧ x = s.push ⟨rowW w :: rowR q :: bx, tk⟩) →
          go AP f_r_Possible (.c (.loop b_r_Possible_l1) :: k_r_Possible_1) ⟨ρ, x⟩ = some (accV 3 (((poss w i).map (reS (m + 1))).map rowP), s) := by
        refine loop_up _ _ _ ?_ ?_
        · rintro j ρ x hj ⟨g1, g2, g5, g6, g8, g9, y, og, tk, bx, hA, g7, rfl⟩ ih2
          obtain ⟨g, hg⟩ := get_some hj
          have hix := chV_ixS hg
          have hgm := grps_mem (List.mem_of_getElem? hg)
          have hgl := grps_len (List.mem_of_getElem? hg)
          have hp0 : PIn w ⟨i, st, stS (m + 1) g⟩ := ⟨h0, h1, by show 0 ≤ st; omega, by show st ≤ 200; omega, fun a ha => hanin a (hgm.subset ha), stS_ok, by show (g.length : Int) < _; omega⟩
          have hsh : ∀ r, callL AP (.fn 51) [w.v, .agg (rowP ⟨i, st, stS (m + 1) g⟩)] (s.push r) = some (B (!(g.all fun a => openB w a st q.len)), s.push r) := fun r => by
            rw [r_shut (hs.push r) hw hp0]
            simp only [hqq]
            rw [List.not_all_eq_any_not]; rfl
          have hcl : closeAll [I i, I st, (stS (m + 1) g).v rowI] = some (rowP ⟨i, st, stS (m + 1) g⟩) := by
            simp only [closeAll_cons, closeAll_nil, close_int, Sl.close (f := rowI) (stS_ok (n := m + 1) (g := g))]; rfl
          have hcn : ((grps (m + 1) q.an.l).length : Int) < 9223372036854775808 := by omega
          have hDl : D.length ≤ 13000 := by rw [← hD, List.length_append] at hcnt; omega
          have htk : ((grps (m + 1) q.an.l).take j).length ≤ 64 := by rw [List.length_take]; omega
          have hfl : (((grps (m + 1) q.an.l).take j).filter fun g => g.all fun a => openB w a st q.len).length ≤ 64 := Nat.le_trans (List.length_filter_le _ _) htk
          simp only [rowP, Sl.v, W.v, rowW] at hcl hsh hix
          cases hall : g.all fun a => openB w a st q.len with
          | false =>
            have hnx : ((grps (m + 1) q.an.l).take (j + 1)).filter (fun g => g.all fun a => openB w a st q.len) = ((grps (m + 1) q.an.l).take j).filter (fun g => g.all fun a => openB w a st q.len) := by
              rw [take_get hg, List.filter_append, List.filter_cons_of_neg (by simp [hall]), List.filter_nil, List.append_nil]
            rw [← hnx] at hA
            obtain ⟨oa, ea, ra, rfl⟩ := Acc.sl hA
            simp (maxSteps := 1000000) only [go_sem, b_r_Possible_l1, g1, g2, g5, g6, g7, g8, g9, hs, chV_len, lt_dec hj, hix, hcl, hsh, hall, Bool.not_false, wrap_succ hj hcn, Nat.reduceEqDiff, reduceCtorEq, Nat.reduceAdd, Nat.reduceMul, Nat.reduceSub, Int.reduceLT, Int.reduceLE, Int.reduceEq, Int.reduceAdd, Int.reduceSub, Int.reduceNeg, Int.reduceToNat, Int.cast_ofNat_Int, ↓reduceIte]
            refine ih2 _ _ ?_
            exact ⟨g1, g2, g5, g6, g8, rfl, _, og, tk, _, hA, g7, rfl⟩
          | true =>
            have hnx : (D ++ (((grps (m + 1) q.an.l).take (j + 1)).filter fun g => g.all fun a => openB w a st q.len).map fun g => (⟨i, st, cpI g⟩ : P)) = (D ++ (((grps (m + 1) q.an.l).take j).filter fun g => g.all fun a => openB w a st q.len).map fun g => (⟨i, st, cpI g⟩ : P)) ++ [⟨i, st, cpI g⟩] := by
              rw [take_get hg, List.filter_append, List.filter_cons_of_pos (by simp [hall]), List.filter_nil, List.map_append, List.append_assoc]; rfl
            obtain ⟨x2, og2, tk2, hb1, hb2, hb3, hb4⟩ := hA.append hs .full (ys := [rowP ⟨i, st, stS (m + 1) g⟩]) (by simp) (by rw [List.length_map, List.length_map, List.length_append, List.length_map, List.length_singleton]; omega)
            obtain ⟨oa, ea, ra, rfl⟩ := Acc.sl hA
            obtain ⟨ob, eb, rb, rfl⟩ := Acc.sl hb2
            simp only [rowP, Sl.v] at hb1
            simp (maxSteps := 1000000) only [go_sem, b_r_Possible_l1, g1, g2, g5, g6, g7, g8, g9, hs, chV_len, lt_dec hj, hix, hcl, hsh, hall, hb1, Bool.not_true, wrap_succ hj hcn, Nat.reduceEqDiff, reduceCtorEq, Nat.reduceAdd, Nat.reduceMul, Nat.reduceSub, Int.reduceLT, Int.reduceLE, Int.reduceEq, Int.reduceAdd, Int.reduceSub, Int.reduceNeg, Int.reduceToNat, Int.cast_ofNat_Int, ↓reduceIte]
            refine ih2 _ _ ?_
            refine ⟨g1, g2, g5, g6, g8, rfl, _, og2, tk2, _, ?_, rfl, rfl⟩
            rw [hnx, List.map_append, List.map_append]; exact hb2
        · rintro ρ x ⟨g1, g2, g5, g6, g8, g9, y, og, tk, bx, hA, g7, rfl⟩
          rw [List.take_length, ← hpa] at hA
          simp (maxSteps := 1000000) only [go_sem, b_r_Possible_l1, b_r_Possible_r1, g1, g2, g5, g6, g7, g8, g9, hs, chV_len, ge_dec, hwst, Nat.reduceEqDiff, reduceCtorEq, Nat.reduceAdd, Nat.reduceMul, Nat.reduceSub, Int.reduceLT, Int.reduceLE, Int.reduceEq, Int.reduceAdd, Int.reduceSub, Int.reduceNeg, Int.reduceToNat, Int.cast_ofNat_Int, ↓reduceIte]
          refine ih _ _ ?_
          exact ⟨g1, g2, g5, g6, rfl, by omega, by omega, _, y, og, tk, bx, by rw [List.append_assoc]; exact hD, hA, g7, rfl⟩
      simp (maxSteps := 1000000) only [go_sem, b_r_Possible_l0, b_r_Possible_r0, g1, g2, g5, g6, g7, g8, hs, hwr1, hwr2, hle, Nat.reduceEqDiff, reduceCtorEq, Nat.reduceAdd, Nat.reduceMul, Nat.reduceSub, Int.reduceLT, Int.reduceLE, Int.reduceEq, Int.reduceAdd, Int.reduceSub, Int.reduceNeg, Int.reduceToNat, Int.cast_ofNat_Int, ↓reduceIte]
      refine inner 0 _ _ (Nat.zero_le _) ?_
      refine ⟨g1, g2, g5, g6, g8, rfl, y, og, tk, bx, ?_, g7, rfl⟩
      rw [List.take_zero, List.filter_nil, List.map_nil, List.append_nil]; exact hA
    · rintro st ρ x hst ⟨g1, g2, g5, g6, g8, hst1, hst2, D, y, og, tk, bx, hD, hA, g7, rfl⟩
      have hle : decide (st ≤ q.hi - q.len + 1) = false := by simp; omega
      have hz : (q.hi - q.len + 2 - st).toNat = 0 := by omega
      rw [hz] at hD
      simp only [possFrom, List.append_nil] at hD
      rw [hD] at hA
      have hlv := fun q : Sig => hA.leave q
      obtain ⟨oa, ea, ra, rfl⟩ := Acc.sl hA
      simp (maxSteps := 1000000) only [go_sem, b_r_Possible_l0, b_r_Possible_r0, g1, g2, g5, g6, g7, g8, hs, hwr1, hwr2, hle, hlv, Nat.reduceEqDiff, reduceCtorEq, Nat.reduceAdd, Nat.reduceMul, Nat.reduceSub, Int.reduceLT, Int.reduceLE, Int.reduceEq, Int.reduceAdd, Int.reduceSub, Int.reduceNeg, Int.reduceToNat, Int.cast_ofNat_Int, ↓reduceIte]
  rw [callL_go (show AP 32 = some c_r_Possible from rfl) rfl]
  simp only [rowR, Sl.v] at hrs hch
  simp (maxSteps := 1000000) only [go_sem, b_r_Possible, hs, hrs, hch, Nat.reduceEqDiff, reduceCtorEq, Nat.reduceAdd, Nat.reduceMul, Nat.reduceSub, Int.reduceLT, Int.reduceLE, Int.reduceEq, Int.reduceAdd, Int.reduceSub, Int.reduceNeg, Int.reduceToNat, Int.cast_ofNat_Int, ↓reduceIte]
  refine outer q.lo _ _ ?_
  refine ⟨rfl, rfl, rfl, rfl, rfl, by omega, by omega, [], _, none, [], [], ?_, Acc.start, rfl, rfl⟩
  rw [List.nil_append, hpe]
end
end Go.Ax.Sx.Sc

namespace Go.Ax.Sx.Sc
open Go.Ax
set_option linter.unusedSimpArgs false
set_option linter.unusedVariables false
set_option maxRecDepth 100000

section
variable {s : Sig} {w : W}

theorem conf_re {n : Nat} {p x : P} : conf w (reS n p) x = conf w p x := rfl
theorem pin_re {n : Nat} {p : P} (h : PIn w p) : PIn w (reS n p) := ⟨h.r0, h.r1, h.s0, h.s1, h.an, stS_ok, h.len⟩

theorem r_Placements (hs : Ok s) (hw : Wk w) {l : List P} {o : Own} {e : Nat} {i : Int} (h0 : 0 ≤ i) (h1 : i < w.rs.l.length) (he : l = [] ∨ e = 3) (hl : l.length ≤ 14) (hin : ∀ x ∈ l, PIn w x) :
    callL AP (.fn 13) [w.v, .slice o e (l.map rowP), I i] s = some (accV 3 (((plcs w l i).map (reS (w.rq i).need.toNat)).map rowP), s) := by
  have hpo : ∀ r, callL AP (.fn 32) [w.v, I i] (s.push r) = some (accV 3 (((poss w i).map (reS (w.rq i).need.toNat)).map rowP), s.push r) := fun r => r_Possible (hs.push r) hw h0 h1
  have hcnt := poss_count hw h0 h1
  have hpin : ∀ p ∈ poss w i, PIn w p := fun p hp => (poss_in hw h0 h1 hp).1
  unfold plcs
  generalize (w.rq i).need.toNat = n at *
  generalize poss w i = A at *
  have hlen : lenOp false (accV 3 ((A.map (reS n)).map rowP)) = some (I A.length) := by rw [len_acc, List.length_map, List.length_map]
  have outer : ∀ (k : Nat) ρ x, k ≤ A.length → (ρ 1 = .slice o e (l.map rowP) ∧ ρ 3 = .ptr s.acts.length 0 0 ∧ ρ 7 = accV 3 ((A.map (reS n)).map rowP) ∧ ρ 9 = I k ∧ ∃ y og tk, Acc s.acts.length 3 ((((A.take k).filter fun x => !confs w x l).map (reS n)).map rowP) y og tk ∧ ρ 8 = y ∧ x = s.push ⟨[rowW w], tk⟩) →
      go AP f_r_Placements (.c (.loop b_r_Placements_l0) :: k_r_Placements_0) ⟨ρ, x⟩ = some (accV 3 (((A.filter fun x => !confs w x l).map (reS n)).map rowP), s) := by
    refine loop_up _ _ _ ?_ ?_
    · rintro k ρ x hk ⟨g1, g3, g7, g9, y, og, tk, hA, g8, rfl⟩ ih
      obtain ⟨p, hp⟩ := get_some hk
      have hpp := hpin p (List.mem_of_getElem? hp)
      have hix : indexAddrOp none 3 (accV 3 ((A.map (reS n)).map rowP)) (I k) = some (.eptr (rowP (reS n p)) 0) := ix_acc (by rw [List.getElem?_map, List.getElem?_map, hp]; rfl)
      have hft : ((A.take k).filter fun x => !confs w x l).length ≤ 13000 := Nat.le_trans (List.length_filter_le _ _) (by rw [List.length_take]; omega)
      have inner : ∀ (j : Nat) ρ x, j ≤ l.length → (ρ 1 = .slice o e (l.map rowP) ∧ ρ 3 = .ptr s.acts.length 0 0 ∧ ρ 7 = accV 3 ((A.map (reS n)).map rowP) ∧ ρ 9 = I k ∧ ρ 10 = B (!(l.take j).any fun q => conf w q p) ∧ ρ 11 = I j ∧ ρ 8 = y ∧ x = s.push ⟨[rowW w], tk⟩) →
          go AP f_r_Placements (.c (.loop b_r_Placements_l1) :: k_r_Placements_1) ⟨ρ, x⟩ = some (accV 3 (((A.filter fun x => !confs w x l).map (reS n)).map rowP), s) := by
        refine loop_up _ _ _ ?_ ?_
        · rintro j ρ x hj ⟨g1, g3, g7, g9, g10, g11, g8, rfl⟩ ih2
          obtain ⟨q, hq⟩ := get_some hj
          have hec : e = 3 := by rcases he with h | h; (rw [h] at hq; simp at hq); exact h
          subst hec
          have hqi := hin q (List.mem_of_getElem? hq)
          have hr := ix_map (f := rowP) (o := o) (es := 3) hq
          have hcf : ∀ r, callL AP (.fn 33) [w.v, .agg (rowP (reS n p)), .agg (rowP q)] (s.push r) = some (B (conf w q p), s.push r) := fun r => by
            rw [r_Conflict (hs.push r) hw (pin_re hpp) hqi, conf_re, conf_symm hw hpp hqi]
          have hnx : (!(l.take (j + 1)).any fun q => conf w q p) = ((!(l.take j).any fun q => conf w q p) && !conf w q p) := by
            rw [take_get hq, List.any_append]; simp
          simp only [rowP, Sl.v, W.v, rowW] at hcf hr hix
          cases hb : !(l.take j).any fun q => conf w q p with
          | true =>
            rw [hb] at g10
            rw [hb, Bool.true_and] at hnx
            simp (maxSteps := 1000000) only [go_sem, b_r_Placements_l1, g1, g3, g7, g8, g9, g10, g11, hs, lt_dec hj, hix, hr, hcf, wrap_succ hj (show (l.length : Int) < _ by omega), Nat.reduceEqDiff, reduceCtorEq, Nat.reduceAdd, Nat.reduceMul, Nat.reduceSub, Int.reduceLT, Int.reduceLE, Int.reduceEq, Int.reduceAdd, Int.reduceSub, Int.reduceNeg, Int.reduceToNat, Int.cast_ofNat_Int, ↓reduceIte]
            refine ih2 _ _ ?_
            exact ⟨g1, g3, g7, g9, by rw [hnx]; rfl, rfl, g8, rfl⟩
          | false =>
            rw [hb] at g10
            rw [hb, Bool.false_and] at hnx
            simp (maxSteps := 1000000) only [go_sem, b_r_Placements_l1, g1, g3, g7, g8, g9, g10, g11, hs, lt_dec hj, hix, hr, hcf, wrap_succ hj (show (l.length : Int) < _ by omega), Nat.reduceEqDiff, reduceCtorEq, Nat.reduceAdd, Nat.reduceMul, Nat.reduceSub, Int.reduceLT, Int.reduceLE, Int.reduceEq, Int.reduceAdd, Int.reduceSub, Int.reduceNeg, Int.reduceToNat, Int.cast_ofNat_Int, ↓reduceIte]
            refine ih2 _ _ ?_
            exact ⟨g1, g3, g7, g9, by rw [hnx]; rfl, rfl, g8, rfl⟩
        · rintro ρ x ⟨g1, g3, g7, g9, g10, g11, g8, rfl⟩
          rw [List.take_length] at g10
          have hcf : (l.any fun q => conf w q p) = confs w p l := rfl
          rw [hcf] at g10
          have hAn : (A.length : Int) < 9223372036854775808 := by omega
          cases hb : confs w p l with
          | false =>
            rw [hb] at g10
            have hnx : (A.take (k + 1)).filter (fun x => !confs w x l) = (A.take k).filter (fun x => !confs w x l) ++ [p] := by
              rw [take_get hp, List.filter_append, List.filter_cons_of_pos (by simp [hb]), List.filter_nil]
            obtain ⟨x2, og2, tk2, hb1, hb2, hb3, hb4⟩ := hA.append hs .full (ys := [rowP (reS n p)]) (by simp) (by rw [List.length_map, List.length_map, List.length_singleton]; omega)
            have hcl : closeAll [I p.req, I p.start, (stS n p.an.l).v rowI] = some (rowP (reS n p)) := by
              simp only [closeAll_cons, closeAll_nil, close_int, Sl.close (f := rowI) (stS_ok (n := n) (g := p.an.l))]; rfl
            obtain ⟨oa, ea, ra, rfl⟩ := Acc.sl hA
            obtain ⟨ob, eb, rb, rfl⟩ := Acc.sl hb2
            simp only [rowP, Sl.v, reS] at hb1 hcl hix
            simp (maxSteps := 1000000) only [go_sem, b_r_Placements_l1, b_r_Placements_r1, b_r_Placements_r2, g1, g3, g7, g8, g9, g10, g11, hs, ge_dec, hix, hcl, hb1, Bool.not_false, wrap_succ hk hAn, Nat.reduceEqDiff, reduceCtorEq, Nat.reduceAdd, Nat.reduceMul, Nat.reduceSub, Int.reduceLT, Int.reduceLE, Int.reduceEq, Int.reduceAdd, Int.reduceSub, Int.reduceNeg, Int.reduceToNat, Int.cast_ofNat_Int, ↓reduceIte]
            refine ih _ _ ?_
            refine ⟨g1, g3, g7, rfl, _, og2, tk2, ?_, rfl, rfl⟩
            rw [hnx, List.map_append, List.map_append]; exact hb2
          | true =>
            rw [hb] at g10
            have hnx : (A.take (k + 1)).filter (fun x => !confs w x l) = (A.take k).filter (fun x => !confs w x l) := by
              rw [take_get hp, List.filter_append, List.filter_cons_of_neg (by simp [hb]), List.filter_nil, List.append_nil]
            simp (maxSteps := 1000000) only [go_sem, b_r_Placements_l1, b_r_Placements_r1, b_r_Placements_r2, g1, g3, g7, g8, g9, g10, g11, hs, ge_dec, Bool.not_true, wrap_succ hk hAn, Nat.reduceEqDiff, reduceCtorEq, Nat.reduceAdd, Nat.reduceMul, Nat.reduceSub, Int.reduceLT, Int.reduceLE, Int.reduceEq, Int.reduceAdd, Int.reduceSub, Int.reduceNeg, Int.reduceToNat, Int.cast_ofNat_Int, ↓reduceIte]
            refine ih _ _ ?_
            exact ⟨g1, g3, g7, rfl, y, og, tk, by rw [hnx]; exact hA, g8, rfl⟩
      simp (maxSteps := 1000000) only [go_sem, b_r_Placements_l0, b_r_Placements_r0, g1, g3, g7, g8, g9, hs, hlen, lt_dec hk, Nat.reduceEqDiff, reduceCtorEq, Nat.reduceAdd, Nat.reduceMul, Nat.reduceSub, Int.reduceLT, Int.reduceLE, Int.reduceEq, Int.reduceAdd, Int.reduceSub, Int.reduceNeg, Int.reduceToNat, Int.cast_ofNat_Int, ↓reduceIte]
      refine inner 0 _ _ (Nat.zero_le _) ?_
      exact ⟨g1, g3, g7, g9, rfl, rfl, g8, rfl⟩
    · rintro ρ x ⟨g1, g3, g7, g9, y, og, tk, hA, g8, rfl⟩
      rw [List.take_length] at hA
      have hlv := fun q : Sig => hA.leave q
      obtain ⟨oa, ea, ra, rfl⟩ := Acc.sl hA
      simp (maxSteps := 1000000) only [go_sem, b_r_Placements_l0, b_r_Placements_r0, g1, g3, g7, g8, g9, hs, hlen, ge_dec, hlv, Nat.reduceEqDiff, reduceCtorEq, Nat.reduceAdd, Nat.reduceMul, Nat.reduceSub, Int.reduceLT, Int.reduceLE, Int.reduceEq, Int.reduceAdd, Int.reduceSub, Int.reduceNeg, Int.reduceToNat, Int.cast_ofNat_Int, ↓reduceIte]
  rw [callL_go (show AP 13 = some c_r_Placements from rfl) rfl]
  simp only [W.v, rowW, Sl.v] at hpo
  simp (maxSteps := 1000000) only [go_sem, b_r_Placements, hs, hpo, Nat.reduceEqDiff, reduceCtorEq, Nat.reduceAdd, Nat.reduceMul, Nat.reduceSub, Int.reduceLT, Int.reduceLE, Int.reduceEq, Int.reduceAdd, Int.reduceSub, Int.reduceNeg, Int.reduceToNat, Int.cast_ofNat_Int, ↓reduceIte]
  refine outer 0 _ _ (Nat.zero_le _) ?_
  exact ⟨rfl, rfl, rfl, rfl, _, none, [], Acc.start, rfl, rfl⟩
end
end Go.Ax.Sx.Sc

namespace Go.Ax.Sx.Sc
open Go.Ax
set_option linter.unusedSimpArgs false
set_option linter.unusedVariables false
set_option maxRecDepth 100000

/-- lexicographically before -/
def lexB : List Int → List Int → Bool
  | [], [] => false
  | [], _ :: _ => true
  | _ :: _, [] => false
  | x :: r, y :: t => if x = y then lexB r t else decide (x < y)
/-- what a pass is compared by -/
def kP (p : P) : List Int := p.req :: p.start :: p.an.l
def cmpP (p q : P) : Int := if lexB (kP p) (kP q) = true then -1 else if lexB (kP q) (kP p) = true then 1 else 0
def sameF : List P → List P → Bool
  | [], [] => true
  | x :: r, y :: t => decide (cmpP x y = 0) && sameF r t
  | _, _ => false

theorem lexB_irrefl : ∀ {l : List Int}, lexB l l = false
  | [] => rfl
  | x :: r => by simp only [lexB, if_true]; exact lexB_irrefl
theorem cmpP_key {p q : P} (h : kP p = kP q) : cmpP p q = 0 := by
  unfold cmpP; rw [h, lexB_irrefl]; simp
theorem sameF_map {f g : P → P} (h : ∀ p, kP (f p) = kP (g p)) : ∀ {l : List P}, sameF (l.map f) (l.map g) = true
  | [] => rfl
  | x :: r => by simp only [List.map_cons, sameF, cmpP_key (h x), decide_true, Bool.true_and]; exact sameF_map h

section
variable {s : Sig} {w : W}

theorem b_Before {a b : List Int} {o1 o2 : Own} {e1 e2 : Nat} (h1 : a = [] ∨ e1 = 1) (h2 : b = [] ∨ e2 = 1) (l1 : a.length ≤ 100000) (l2 : b.length ≤ 100000) :
    callL AP (.fn 53) [.slice o1 e1 (a.map rowI), .slice o2 e2 (b.map rowI)] s = some (B (lexB a b), s) := by
  have key : ∀ (k : Nat) ρ m, k ≤ min a.length b.length → (ρ 0 = .slice o1 e1 (a.map rowI) ∧ ρ 1 = .slice o2 e2 (b.map rowI) ∧ ρ 5 = I k ∧ m = s.push ⟨[], []⟩) →
      go AP f_b_Before (.c (.loop b_b_Before_l0) :: k_b_Before_0) ⟨ρ, m⟩ = some (B (lexB (a.drop k) (b.drop k)), s) := by
    refine loop_up (min a.length b.length) _ _ ?_ ?_
    · rintro k ρ m hk ⟨g0, g1, g5, rfl⟩ ih
      obtain ⟨x, hx⟩ := get_some (l := a) (k := k) (by omega)
      obtain ⟨y, hy⟩ := get_some (l := b) (k := k) (by omega)
      have he1 : e1 = 1 := by rcases h1 with h | h; (rw [h] at hx; simp at hx); exact h
      have he2 : e2 = 1 := by rcases h2 with h | h; (rw [h] at hy; simp at hy); exact h
      subst he1; subst he2
      have ha := ix_map (f := rowI) (o := o1) (es := 1) hx
      have hb := ix_map (f := rowI) (o := o2) (es := 1) hy
      have d1 : decide ((k : Int) < (a.length : Int)) = true := by simp; omega
      have d2 : decide ((k : Int) < (b.length : Int)) = true := by simp; omega
      rw [drop_get hx, drop_get hy, lexB]
      by_cases hxy : x = y
      · rw [if_pos hxy]
        have hd : decide (¬ x = y) = false := by simp [hxy]
        have hwr : IntKind.i64.wrap ((k : Int) + 1) = ((k + 1 : Nat) : Int) := by rw [wrap_id (by omega) (by omega)]; omega
        simp (maxSteps := 1000000) only [go_sem, b_b_Before_l0, b_b_Before_r0, g0, g1, g5, d1, d2, ha, hb, hd, ne_eq, hwr, Nat.reduceEqDiff, reduceCtorEq, Nat.reduceAdd, Nat.reduceMul, Nat.reduceSub, Int.reduceLT, Int.reduceLE, Int.reduceEq, Int.reduceAdd, Int.reduceSub, Int.reduceNeg, Int.reduceToNat, Int.cast_ofNat_Int, ↓reduceIte]
        exact ih _ _ ⟨g0, g1, rfl, rfl⟩
      · rw [if_neg hxy]
        have hd : decide (¬ x = y) = true := by simp [hxy]
        simp (maxSteps := 1000000) only [go_sem, b_b_Before_l0, b_b_Before_r0, g0, g1, g5, d1, d2, ha, hb, hd, ne_eq, Nat.reduceEqDiff, reduceCtorEq, Nat.reduceAdd, Nat.reduceMul, Nat.reduceSub, Int.reduceLT, Int.reduceLE, Int.reduceEq, Int.reduceAdd, Int.reduceSub, Int.reduceNeg, Int.reduceToNat, Int.cast_ofNat_Int, ↓reduceIte]
    · rintro ρ m ⟨g0, g1, g5, rfl⟩
      by_cases hab : a.length ≤ b.length
      · have hmin : min a.length b.length = a.length := by omega
        rw [hmin] at g5 ⊢
        have d1 : decide ((a.length : Int) < (a.length : Int)) = false := by simp
        rw [List.drop_length]
        simp (maxSteps := 1000000) only [go_sem, b_b_Before_l0, b_b_Before_r0, g0, g1, g5, d1, Nat.reduceEqDiff, reduceCtorEq, Nat.reduceAdd, Nat.reduceMul, Nat.reduceSub, Int.reduceLT, Int.reduceLE, Int.reduceEq, Int.reduceAdd, Int.reduceSub, Int.reduceNeg, Int.reduceToNat, Int.cast_ofNat_Int, ↓reduceIte]
        by_cases hlt : a.length < b.length
        · have : ∃ y r, b.drop a.length = y :: r := by
            obtain ⟨y, hy⟩ := get_some hlt
            exact ⟨y, _, drop_get hy⟩
          obtain ⟨y, r, hd⟩ := this
          rw [hd]
          simp only [lexB]
          have : decide ((a.length : Int) < (b.length : Int)) = true := by simp; omega
          rw [this]
        · rw [List.drop_of_length_le (by omega)]
          simp only [lexB]
          have : decide ((a.length : Int) < (b.length : Int)) = false := by simp; omega
          rw [this]
      · have hmin : min a.length b.length = b.length := by omega
        rw [hmin] at g5 ⊢
        have d1 : decide ((b.length : Int) < (a.length : Int)) = true := by simp; omega
        have d2 : decide ((b.length : Int) < (b.length : Int)) = false := by simp
        obtain ⟨x, hx⟩ := get_some (l := a) (k := b.length) (by omega)
        have d3 : decide ((a.length : Int) < (b.length : Int)) = false := by simp; omega
        simp (maxSteps := 1000000) only [go_sem, b_b_Before_l0, b_b_Before_r0, g0, g1, g5, d1, d2, d3, Nat.reduceEqDiff, reduceCtorEq, Nat.reduceAdd, Nat.reduceMul, Nat.reduceSub, Int.reduceLT, Int.reduceLE, Int.reduceEq, Int.reduceAdd, Int.reduceSub, Int.reduceNeg, Int.reduceToNat, Int.cast_ofNat_Int, ↓reduceIte]
        rw [drop_get hx, List.drop_length]; rfl
  rw [callL_go (show AP 53 = some c_b_Before from rfl) rfl]
  simp (maxSteps := 1000000) only [go_sem, b_b_Before, Nat.reduceEqDiff, reduceCtorEq, Nat.reduceAdd, Nat.reduceMul, Nat.reduceSub, Int.reduceLT, Int.reduceLE, Int.reduceEq, Int.reduceAdd, Int.reduceSub, Int.reduceNeg, Int.reduceToNat, Int.cast_ofNat_Int, ↓reduceIte]
  exact key 0 _ _ (Nat.zero_le _) ⟨rfl, rfl, rfl, rfl⟩

theorem kP_rows {p : P} : [[I p.req], [I p.start]] ++ p.an.l.map rowI = (kP p).map rowI := rfl

theorem r_compare {p q : P} (hs : Ok s) (hp : p.an.ok 1) (hq : q.an.ok 1) (lp : p.an.l.length ≤ 1000) (lq : q.an.l.length ≤ 1000) :
    callL AP (.fn 34) [.agg (rowP p), .agg (rowP q)] s = some (I (cmpP p q), s) := by
  obtain ⟨o1, tk1, ha1, _, _⟩ := app_lit (q := s) (b := []) (tk := []) (lit := [[I p.req], [I p.start]]) (ys := p.an.l.map rowI) (o := p.an.o) (e := p.an.e) (by rcases hp.1 with h | h; exact .inl (by rw [h]; rfl); exact .inr h) (by simp; omega)
  obtain ⟨o2, tk2, ha2, _, _⟩ := app_lit (q := s) (b := []) (tk := tk1) (lit := [[I q.req], [I q.start]]) (ys := q.an.l.map rowI) (o := q.an.o) (e := q.an.e) (by rcases hq.1 with h | h; exact .inl (by rw [h]; rfl); exact .inr h) (by simp; omega)
  rw [kP_rows] at ha1 ha2
  have hb1 : ∀ m : Sig, callL AP (.fn 53) [.slice o1 1 ((kP p).map rowI), .slice o2 1 ((kP q).map rowI)] m = some (B (lexB (kP p) (kP q)), m) := fun m => b_Before (.inr rfl) (.inr rfl) (by simp [kP]; omega) (by simp [kP]; omega)
  have hb2 : ∀ m : Sig, callL AP (.fn 53) [.slice o2 1 ((kP q).map rowI), .slice o1 1 ((kP p).map rowI)] m = some (B (lexB (kP q) (kP p)), m) := fun m => b_Before (.inr rfl) (.inr rfl) (by simp [kP]; omega) (by simp [kP]; omega)
  rw [callL_go (show AP 34 = some c_r_compare from rfl) rfl]
  unfold cmpP
  cases h1 : lexB (kP p) (kP q) with
  | true => simp (maxSteps := 1000000) only [go_sem, b_r_compare, hs, ha1, ha2, hb1, h1, Nat.reduceEqDiff, reduceCtorEq, Nat.reduceAdd, Nat.reduceMul, Nat.reduceSub, Int.reduceLT, Int.reduceLE, Int.reduceEq, Int.reduceAdd, Int.reduceSub, Int.reduceNeg, Int.reduceToNat, Int.cast_ofNat_Int, ↓reduceIte]
  | false =>
    cases h2 : lexB (kP q) (kP p) with
    | true => simp (maxSteps := 1000000) only [go_sem, b_r_compare, hs, ha1, ha2, hb1, hb2, h1, h2, Bool.false_eq_true, Nat.reduceEqDiff, reduceCtorEq, Nat.reduceAdd, Nat.reduceMul, Nat.reduceSub, Int.reduceLT, Int.reduceLE, Int.reduceEq, Int.reduceAdd, Int.reduceSub, Int.reduceNeg, Int.reduceToNat, Int.cast_ofNat_Int, ↓reduceIte]
    | false => simp (maxSteps := 1000000) only [go_sem, b_r_compare, hs, ha1, ha2, hb1, hb2, h1, h2, Bool.false_eq_true, Nat.reduceEqDiff, reduceCtorEq, Nat.reduceAdd, Nat.reduceMul, Nat.reduceSub, Int.reduceLT, Int.reduceLE, Int.reduceEq, Int.reduceAdd, Int.reduceSub, Int.reduceNeg, Int.reduceToNat, Int.cast_ofNat_Int, ↓reduceIte]

structure SmOk (l : List P) : Prop where
  len : l.length ≤ 100000
  ok : ∀ p ∈ l, p.an.ok 1 ∧ p.an.l.length ≤ 1000

theorem r_Same {a b : List P} {o1 o2 : Own} {e1 e2 : Nat} (hs : Ok s) (h1 : a = [] ∨ e1 = 3) (h2 : b = [] ∨ e2 = 3) (l1 : SmOk a) (l2 : SmOk b) :
    callL AP (.fn 14) [.slice o1 e1 (a.map rowP), .slice o2 e2 (b.map rowP)] s = some (B (sameF a b), s) := by
  have hla := l1.len
  have hlb := l2.len
  by_cases hab : a.length = b.length
  · have key : ∀ (k : Nat) ρ m, k ≤ a.length → (ρ 0 = .slice o1 e1 (a.map rowP) ∧ ρ 1 = .slice o2 e2 (b.map rowP) ∧ ρ 5 = I k ∧ m = s.push ⟨[], []⟩) →
        go AP f_r_Same (.c (.loop b_r_Same_l0) :: k_r_Same_0) ⟨ρ, m⟩ = some (B (sameF (a.drop k) (b.drop k)), s) := by
      refine loop_up a.length _ _ ?_ ?_
      · rintro k ρ m hk ⟨g0, g1, g5, rfl⟩ ih
        obtain ⟨x, hx⟩ := get_some (l := a) (k := k) (by omega)
        obtain ⟨y, hy⟩ := get_some (l := b) (k := k) (by omega)
        have he1 : e1 = 3 := by rcases h1 with h | h; (rw [h] at hx; simp at hx); exact h
        have he2 : e2 = 3 := by rcases h2 with h | h; (rw [h] at hy; simp at hy); exact h
        subst he1; subst he2
        have ha := ix_map (f := rowP) (o := o1) (es := 3) hx
        have hb := ix_map (f := rowP) (o := o2) (es := 3) hy
        have hxo := l1.ok x (List.mem_of_getElem? hx)
        have hyo := l2.ok y (List.mem_of_getElem? hy)
        have hcm : ∀ r, callL AP (.fn 34) [.agg (rowP x), .agg (rowP y)] (s.push r) = some (I (cmpP x y), s.push r) := fun r => r_compare (hs.push r) hxo.1 hyo.1 hxo.2 hyo.2
        rw [drop_get hx, drop_get hy, sameF]
        simp only [rowP, Sl.v] at hcm ha hb
        by_cases hc : cmpP x y = 0
        · have hd : decide (¬ cmpP x y = 0) = false := by simp [hc]
          rw [decide_eq_true hc, Bool.true_and]
          simp (maxSteps := 1000000) only [go_sem, b_r_Same_l0, b_r_Same_r0, g0, g1, g5, hs, lt_dec hk, ha, hb, hcm, hd, ne_eq, wrap_succ hk (show (a.length : Int) < _ by omega), Nat.reduceEqDiff, reduceCtorEq, Nat.reduceAdd, Nat.reduceMul, Nat.reduceSub, Int.reduceLT, Int.reduceLE, Int.reduceEq, Int.reduceAdd, Int.reduceSub, Int.reduceNeg, Int.reduceToNat, Int.cast_ofNat_Int, ↓reduceIte]
          refine ih _ _ ?_
          exact ⟨g0, g1, rfl, rfl⟩
        · have hd : decide (¬ cmpP x y = 0) = true := by simp [hc]
          rw [decide_eq_false hc, Bool.false_and]
          simp (maxSteps := 1000000) only [go_sem, b_r_Same_l0, b_r_Same_r0, g0, g1, g5, hs, lt_dec hk, ha, hb, hcm, hd, ne_eq, Nat.reduceEqDiff, reduceCtorEq, Nat.reduceAdd, Nat.reduceMul, Nat.reduceSub, Int.reduceLT, Int.reduceLE, Int.reduceEq, Int.reduceAdd, Int.reduceSub, Int.reduceNeg, Int.reduceToNat, Int.cast_ofNat_Int, ↓reduceIte]
      · rintro ρ m ⟨g0, g1, g5, rfl⟩
        simp (maxSteps := 1000000) only [go_sem, b_r_Same_l0, b_r_Same_r0, g0, g1, g5, hs, ge_dec, Nat.reduceEqDiff, reduceCtorEq, Nat.reduceAdd, Nat.reduceMul, Nat.reduceSub, Int.reduceLT, Int.reduceLE, Int.reduceEq, Int.reduceAdd, Int.reduceSub, Int.reduceNeg, Int.reduceToNat, Int.cast_ofNat_Int, ↓reduceIte]
        rw [List.drop_length, List.drop_of_length_le (by omega)]; rfl
    have hd : decide (¬ (a.length : Int) = (b.length : Int)) = false := by simp [hab]
    rw [callL_go (show AP 14 = some c_r_Same from rfl) rfl]
    simp (maxSteps := 1000000) only [go_sem, b_r_Same, hs, hd, ne_eq, Nat.reduceEqDiff, reduceCtorEq, Nat.reduceAdd, Nat.reduceMul, Nat.reduceSub, Int.reduceLT, Int.reduceLE, Int.reduceEq, Int.reduceAdd, Int.reduceSub, Int.reduceNeg, Int.reduceToNat, Int.cast_ofNat_Int, ↓reduceIte]
    exact key 0 _ _ (Nat.zero_le _) ⟨rfl, rfl, rfl, rfl⟩
  · have hsf : ∀ {a b : List P}, a.length ≠ b.length → sameF a b = false := by
      intro a
      induction a with
      | nil => intro b h; cases b with
        | nil => exact absurd rfl h
        | cons _ _ => rfl
      | cons x r ih => intro b h; cases b with
        | nil => rfl
        | cons y t => simp only [sameF]; rw [ih (b := t) (by simpa using h), Bool.and_false]
    have hd : decide (¬ (a.length : Int) = (b.length : Int)) = true := by simp; omega
    rw [hsf hab]
    rw [callL_go (show AP 14 = some c_r_Same from rfl) rfl]
    simp (maxSteps := 1000000) only [go_sem, b_r_Same, hs, hd, ne_eq, Nat.reduceEqDiff, reduceCtorEq, Nat.reduceAdd, Nat.reduceMul, Nat.reduceSub, Int.reduceLT, Int.reduceLE, Int.reduceEq, Int.reduceAdd, Int.reduceSub, Int.reduceNeg, Int.reduceToNat, Int.cast_ofNat_Int, ↓reduceIte]

theorem r_PassOf {l : List P} {o : Own} {e : Nat} {i : Int} (he : l = [] ∨ e = 3) (hl : l.length ≤ 100000) : callL AP (.fn 12) [.slice o e (l.map rowP), I i] s = some (I (findI (fun p : P => decide (p.req = i)) l), s) := by
  have key : ∀ (k : Nat) ρ m, k ≤ l.length → (ρ 0 = .slice o e (l.map rowP) ∧ ρ 1 = I i ∧ ρ 5 = I k ∧ (∀ j y, j < k → l[j]? = some y → decide (y.req = i) = false) ∧ m = s.push ⟨[], []⟩) →
      go AP f_r_PassOf (.c (.loop b_r_PassOf_l0) :: k_r_PassOf_0) ⟨ρ, m⟩ = some (I (findI (fun p : P => decide (p.req = i)) l), s) := by
    refine loop_up l.length _ _ ?_ ?_
    · rintro k ρ m hk ⟨h0, h1, h5, hp, rfl⟩ ih
      obtain ⟨a, ha⟩ := get_some hk
      have he : e = 3 := by rcases he with h | h; (rw [h] at ha; simp at ha); exact h
      subst he
      have hr := ix_map (o := o) (es := 3) (f := rowP) ha
      cases hpa : decide (a.req = i) with
      | true =>
        simp (maxSteps := 1000000) only [go_sem, b_r_PassOf_l0, b_r_PassOf_r0, h0, h1, h5, lt_dec hk, hr, hpa, Nat.reduceEqDiff, reduceCtorEq, Nat.reduceAdd, Nat.reduceMul, Nat.reduceSub, Int.reduceLT, Int.reduceLE, Int.reduceEq, Int.reduceAdd, Int.reduceSub, Int.reduceNeg, Int.reduceToNat, Int.cast_ofNat_Int, ↓reduceIte]
        rw [findI_at ha hpa hp]
      | false =>
        simp (maxSteps := 1000000) only [go_sem, b_r_PassOf_l0, b_r_PassOf_r0, h0, h1, h5, lt_dec hk, hr, hpa, wrap_succ hk (show (l.length : Int) < _ by omega), Nat.reduceEqDiff, reduceCtorEq, Nat.reduceAdd, Nat.reduceMul, Nat.reduceSub, Int.reduceLT, Int.reduceLE, Int.reduceEq, Int.reduceAdd, Int.reduceSub, Int.reduceNeg, Int.reduceToNat, Int.cast_ofNat_Int, ↓reduceIte]
        refine ih _ _ ?_
        refine ⟨h0, h1, rfl, fun j y hj hy => ?_, rfl⟩
        by_cases e : j = k
        · subst e; rw [ha] at hy; injection hy with hy; rw [← hy]; exact hpa
        · exact hp j y (by omega) hy
    · rintro ρ m ⟨h0, h1, h5, hp, rfl⟩
      simp (maxSteps := 1000000) only [go_sem, b_r_PassOf_l0, b_r_PassOf_r0, h0, h1, h5, ge_dec, Nat.reduceEqDiff, reduceCtorEq, Nat.reduceAdd, Nat.reduceMul, Nat.reduceSub, Int.reduceLT, Int.reduceLE, Int.reduceEq, Int.reduceAdd, Int.reduceSub, Int.reduceNeg, Int.reduceToNat, Int.cast_ofNat_Int, ↓reduceIte]
      rw [findI_no hp]
  rw [callL_go (show AP 12 = some c_r_PassOf from rfl) rfl]
  simp (maxSteps := 1000000) only [go_sem, b_r_PassOf, Nat.reduceEqDiff, reduceCtorEq, Nat.reduceAdd, Nat.reduceMul, Nat.reduceSub, Int.reduceLT, Int.reduceLE, Int.reduceEq, Int.reduceAdd, Int.reduceSub, Int.reduceNeg, Int.reduceToNat, Int.cast_ofNat_Int, ↓reduceIte]
  exact key 0 _ _ (Nat.zero_le _) ⟨rfl, rfl, rfl, fun j y hj => absurd hj (Nat.not_lt_zero _), rfl⟩

theorem findI_pOf {l : List P} {i : Int} : decide ((0 : Int) ≤ findI (fun p : P => decide (p.req = i)) l) = (pOf l i).isSome := by
  have h : (pOf l i).isSome = l.any fun p => decide (p.req = i) := by
    rw [Bool.eq_iff_iff]
    unfold pOf
    rw [List.find?_isSome, List.any_eq_true]
  rw [h]
  rcases findI_cases (fun p : P => decide (p.req = i)) l with ⟨h1, h2⟩ | ⟨h1, j, x, _, _, h4, _⟩
  · rw [h1, h2]; rfl
  · rw [h1, h4]; simp

/-- the error of requests -/
def reqsE (n : Nat) : Int → List Int → Int
  | _, [] => 0
  | last, a :: t => if wi a 0 (n - 1) = true then (if last < a then reqsE n a t else 9) else 6

theorem r_RequestsErr {l : List Int} {o : Own} {e : Nat} (hs : Ok s) (hrl : w.rs.l.length ≤ 14) (he : l = [] ∨ e = 1) (hl : l.length ≤ 100000) :
    callL AP (.fn 11) [w.v, .slice o e (l.map rowI)] s = some (I (reqsE w.rs.l.length (-1) l), s) := by
  have hwr1 : IntKind.i64.wrap ((w.rs.l.length : Int) - 1) = (w.rs.l.length : Int) - 1 := wrap_id (by omega) (by omega)
  have key : ∀ (k : Nat) ρ m, k ≤ l.length → (ρ 1 = .slice o e (l.map rowI) ∧ ρ 2 = .ptr s.acts.length 0 0 ∧ ρ 5 = I k ∧ m = s.push ⟨[rowW w], []⟩) →
      go AP f_r_RequestsErr (.c (.loop b_r_RequestsErr_l0) :: k_r_RequestsErr_0) ⟨ρ, m⟩ = some (I (reqsE w.rs.l.length (prevA l k) (l.drop k)), s) := by
    refine loop_up l.length _ _ ?_ ?_
    · rintro k ρ m hk ⟨g1, g2, g5, rfl⟩ ih
      obtain ⟨a, ha⟩ := get_some hk
      have he : e = 1 := by rcases he with h | h; (rw [h] at ha; simp at ha); exact h
      subst he
      have hr := ix_map (o := o) (es := 1) (f := rowI) ha
      have hpv : prevA l (k + 1) = a := by show l.getD k 0 = a; rw [List.getD, ha]; rfl
      rw [drop_get ha, reqsE]
      cases h1 : wi a 0 (w.rs.l.length - 1) with
      | false => simp (maxSteps := 1000000) only [go_sem, b_r_RequestsErr_l0, b_r_RequestsErr_r0, g1, g2, g5, hs, lt_dec hk, hr, hwr1, b_Within, h1, Bool.false_eq_true, Nat.reduceEqDiff, reduceCtorEq, Nat.reduceAdd, Nat.reduceMul, Nat.reduceSub, Int.reduceLT, Int.reduceLE, Int.reduceEq, Int.reduceAdd, Int.reduceSub, Int.reduceNeg, Int.reduceToNat, Int.cast_ofNat_Int, ↓reduceIte]
      | true =>
        rw [if_pos rfl]
        have ha0 := (wi_iff.1 h1).1
        rcases Nat.eq_zero_or_pos k with hk0 | hk0
        · have hlt : prevA l k < a := by rw [hk0, show prevA l 0 = -1 from rfl]; omega
          rw [if_pos hlt]
          have h0 : decide ((0 : Int) < (k : Int)) = false := by simp; omega
          simp (maxSteps := 1000000) only [go_sem, b_r_RequestsErr_l0, b_r_RequestsErr_r0, g1, g2, g5, hs, lt_dec hk, hr, hwr1, b_Within, h1, h0, wrap_succ hk (show (l.length : Int) < _ by omega), Nat.reduceEqDiff, reduceCtorEq, Nat.reduceAdd, Nat.reduceMul, Nat.reduceSub, Int.reduceLT, Int.reduceLE, Int.reduceEq, Int.reduceAdd, Int.reduceSub, Int.reduceNeg, Int.reduceToNat, Int.cast_ofNat_Int, ↓reduceIte]
          refine Eq.trans (ih _ _ ?_) ?_
          · exact ⟨g1, g2, rfl, rfl⟩
          · rw [hpv]
        · obtain ⟨b, hb⟩ := get_some (l := l) (k := k - 1) (by omega)
          have hr2 := ix_map (o := o) (es := 1) (f := rowI) hb
          have h0 : decide ((0 : Int) < (k : Int)) = true := by simp; omega
          have hsub : IntKind.i64.wrap ((k : Int) - 1) = ((k - 1 : Nat) : Int) := by rw [wrap_id (by omega) (by omega)]; omega
          have hpb : prevA l k = b := by
            obtain ⟨j, rfl⟩ : ∃ j, k = j + 1 := ⟨k - 1, by omega⟩
            show l.getD j 0 = b
            rw [List.getD, show l[j]? = some b from hb]; rfl
          rw [hpb]
          by_cases hab : b < a
          · rw [if_pos hab]
            have hd : decide (a ≤ b) = false := by simp; omega
            simp (maxSteps := 1000000) only [go_sem, b_r_RequestsErr_l0, b_r_RequestsErr_r0, g1, g2, g5, hs, lt_dec hk, hr, hwr1, b_Within, h1, h0, hsub, hr2, hd, wrap_succ hk (show (l.length : Int) < _ by omega), Nat.reduceEqDiff, reduceCtorEq, Nat.reduceAdd, Nat.reduceMul, Nat.reduceSub, Int.reduceLT, Int.reduceLE, Int.reduceEq, Int.reduceAdd, Int.reduceSub, Int.reduceNeg, Int.reduceToNat, Int.cast_ofNat_Int, ↓reduceIte]
            refine Eq.trans (ih _ _ ?_) ?_
            · exact ⟨g1, g2, rfl, rfl⟩
            · rw [hpv]
          · rw [if_neg hab]
            have hd : decide (a ≤ b) = true := by simp; omega
            simp (maxSteps := 1000000) only [go_sem, b_r_RequestsErr_l0, b_r_RequestsErr_r0, g1, g2, g5, hs, lt_dec hk, hr, hwr1, b_Within, h1, h0, hsub, hr2, hd, Nat.reduceEqDiff, reduceCtorEq, Nat.reduceAdd, Nat.reduceMul, Nat.reduceSub, Int.reduceLT, Int.reduceLE, Int.reduceEq, Int.reduceAdd, Int.reduceSub, Int.reduceNeg, Int.reduceToNat, Int.cast_ofNat_Int, ↓reduceIte]
    · rintro ρ m ⟨g1, g2, g5, rfl⟩
      simp (maxSteps := 1000000) only [go_sem, b_r_RequestsErr_l0, b_r_RequestsErr_r0, g1, g2, g5, hs, ge_dec, Nat.reduceEqDiff, reduceCtorEq, Nat.reduceAdd, Nat.reduceMul, Nat.reduceSub, Int.reduceLT, Int.reduceLE, Int.reduceEq, Int.reduceAdd, Int.reduceSub, Int.reduceNeg, Int.reduceToNat, Int.cast_ofNat_Int, ↓reduceIte]
      rw [List.drop_length]; rfl
  rw [callL_go (show AP 11 = some c_r_RequestsErr from rfl) rfl]
  simp (maxSteps := 1000000) only [go_sem, b_r_RequestsErr, hs, Nat.reduceEqDiff, reduceCtorEq, Nat.reduceAdd, Nat.reduceMul, Nat.reduceSub, Int.reduceLT, Int.reduceLE, Int.reduceEq, Int.reduceAdd, Int.reduceSub, Int.reduceNeg, Int.reduceToNat, Int.cast_ofNat_Int, ↓reduceIte]
  exact key 0 _ _ (Nat.zero_le _) ⟨rfl, rfl, rfl, rfl⟩
end
end Go.Ax.Sx.Sc

namespace Go.Ax.Sx.Sc
open Go.Ax
set_option linter.unusedSimpArgs false
set_option linter.unusedVariables false
set_option maxRecDepth 100000

section
variable {w : W}

/-- Each pass is valid behind the ones before it. -/
def zs (w : W) : List P → List P → Prop
  | _, [] => True
  | a, p :: b => passE w p a = 0 ∧ zs w (a ++ [p]) b

theorem zs_ix : ∀ {b a : List P}, (∀ (j : Nat) x, b[j]? = some x → passE w x (a ++ b.take j) = 0) → zs w a b
  | [], _, _ => trivial
  | p :: b, a, h => by
    refine ⟨?_, zs_ix fun j x hj => ?_⟩
    · have := h 0 p rfl; simpa using this
    · have := h (j + 1) x hj
      rw [List.append_assoc]; exact this
theorem zs_chk (hw : Wk w) {l : List P} (hl : PlOk l) (h : (chkE w l).2 = 0) : zs w [] l := zs_ix fun j x hj => by
  rw [List.nil_append]; exact chk_in hw hl h j x hj
theorem zs_first : ∀ {b a : List P} {l : List P}, l = a ++ b → zs w a b → firstAt (fun i x => passE w x (l.take i)) a.length b = none
  | [], _, _, _, _ => rfl
  | p :: b, a, l, hl, h => by
    simp only [firstAt]
    have e : l.take a.length = a := by rw [hl, List.take_left]
    rw [e, if_pos h.1]
    have := zs_first (b := b) (a := a ++ [p]) (l := l) (by rw [hl, List.append_assoc]; rfl) h.2
    rw [List.length_append] at this
    exact this
theorem chk_zs {l : List P} (h : zs w [] l) : chkE w l = (0, 0) := by
  have := zs_first (b := l) (a := []) (l := l) rfl h
  unfold chkE
  rw [show ([] : List P).length = 0 from rfl] at this
  rw [this]
theorem zs_app : ∀ {b a c : List P}, zs w a (b ++ c) ↔ zs w a b ∧ zs w (a ++ b) c
  | [], a, c => by simp [zs]
  | p :: b, a, c => by
    simp only [List.cons_append, zs]
    rw [zs_app (b := b), List.append_assoc, and_assoc]; rfl

theorem passE_earlier {p : P} {a b : List P} (h : passE w p a = 0) (h1 : lastR b < p.req) (h2 : confs w p b = false) : passE w p b = 0 := by
  unfold passE at h ⊢
  by_cases c1 : wi p.req 0 (w.rs.l.length - 1) = true
  · rw [if_pos c1] at h ⊢
    rw [if_pos h1]
    by_cases c2 : lastR a < p.req
    · rw [if_pos c2] at h
      by_cases c3 : wi p.start (w.rq p.req).lo ((w.rq p.req).hi + 1 - (w.rq p.req).len) = true
      · rw [if_pos c3] at h ⊢
        by_cases c4 : (p.an.l.length : Int) = (w.rq p.req).need
        · rw [if_pos c4] at h ⊢
          by_cases c5 : anE (w.rq p.req) (-1) p.an.l = 0
          · rw [if_pos c5] at h ⊢
            by_cases c6 : (p.an.l.any fun a => !openB w a p.start (w.rq p.req).len) = true
            · rw [if_pos c6] at h; exact absurd h (by decide)
            · rw [if_neg c6, h2]; rfl
          · rw [if_neg c5] at h; exact absurd h c5
        · rw [if_neg c4] at h; exact absurd h (by decide)
      · rw [if_neg c3] at h; exact absurd h (by decide)
    · rw [if_neg c2] at h; exact absurd h (by decide)
  · rw [if_neg c1] at h; exact absurd h (by decide)
theorem passE_last {p : P} {a : List P} (h : passE w p a = 0) : lastR a < p.req ∧ confs w p a = false := by
  unfold passE at h
  by_cases c1 : wi p.req 0 (w.rs.l.length - 1) = true
  · rw [if_pos c1] at h
    by_cases c2 : lastR a < p.req
    · refine ⟨c2, ?_⟩
      rw [if_pos c2] at h
      by_cases c3 : wi p.start (w.rq p.req).lo ((w.rq p.req).hi + 1 - (w.rq p.req).len) = true
      · rw [if_pos c3] at h
        by_cases c4 : (p.an.l.length : Int) = (w.rq p.req).need
        · rw [if_pos c4] at h
          by_cases c5 : anE (w.rq p.req) (-1) p.an.l = 0
          · rw [if_pos c5] at h
            by_cases c6 : (p.an.l.any fun a => !openB w a p.start (w.rq p.req).len) = true
            · rw [if_pos c6] at h; exact absurd h (by decide)
            · rw [if_neg c6] at h
              cases hc : confs w p a with
              | false => rfl
              | true => rw [hc] at h; exact absurd h (by decide)
          · rw [if_neg c5] at h; exact absurd h c5
        · rw [if_neg c4] at h; exact absurd h (by decide)
      · rw [if_neg c3] at h; exact absurd h (by decide)
    · rw [if_neg c2] at h; exact absurd h (by decide)
  · rw [if_neg c1] at h; exact absurd h (by decide)

theorem lastR_app {a b : List P} (h : b ≠ []) : lastR (a ++ b) = lastR b := by
  unfold lastR
  rw [List.getLast?_append, List.getLast?_eq_some_getLast h]; rfl
theorem confs_app {p : P} {a b : List P} : confs w p (a ++ b) = (confs w p a || confs w p b) := by unfold confs; rw [List.any_append]

theorem zs_ins {pre : List P} {x : P} : ∀ {b mid : List P}, zs w (pre ++ mid) b → (∀ p ∈ b, conf w x p = false) → (mid = [] → ∀ p ∈ b.head?, x.req < p.req) → zs w (pre ++ x :: mid) b
  | [], _, _, _, _ => trivial
  | p :: b, mid, h, hc, hx => by
    have h1 := passE_last h.1
    refine ⟨passE_earlier h.1 ?_ ?_, ?_⟩
    · by_cases hm : mid = []
      · subst hm
        rw [lastR_app (by simp)]
        have := hx rfl p (by simp)
        unfold lastR; simpa using this
      · rw [show pre ++ x :: mid = (pre ++ [x]) ++ mid by simp, lastR_app hm]
        have := h1.1
        rwa [lastR_app hm] at this
    · have := h1.2
      rw [confs_app, Bool.or_eq_false_iff] at this
      have hcx := hc p (by simp)
      rw [confs_app, this.1, Bool.false_or]
      show (conf w x p || confs w p mid) = false
      rw [hcx, this.2]; rfl
    · have := zs_ins (pre := pre) (x := x) (b := b) (mid := mid ++ [p]) (by rw [← List.append_assoc]; exact h.2) (fun q hq => hc q (List.mem_cons_of_mem _ hq)) (fun hm => absurd hm (by simp))
      rw [List.append_assoc]; exact this

theorem zs_len : ∀ {b a : List P}, zs w a b → b ≠ [] → lastR a + b.length < w.rs.l.length
  | [], _, _, h => absurd rfl h
  | p :: b, a, h, _ => by
    have h1 := (passE_last h.1).1
    have h2 := passE_r h.1
    by_cases hb : b = []
    · subst hb; simp; omega
    · have := zs_len h.2 hb
      rw [lastR_app (by simp)] at this
      have e : lastR [p] = p.req := rfl
      rw [e] at this
      simp only [List.length_cons]
      omega
theorem zs_max (hw : Wk w) {l : List P} (h : zs w [] l) : l.length ≤ 12 := by
  have hrl := hw.v.rl
  by_cases hl : l = []
  · subst hl; simp
  · have := zs_len h hl
    have e : lastR ([] : List P) = -1 := rfl
    rw [e] at this
    omega

theorem anE_sub {r : R} : ∀ {g : List Int} {k : Int}, g.Pairwise (· < ·) → (∀ a ∈ g, a ∈ r.an.l ∧ k < a) → anE r k g = 0
  | [], _, _, _ => rfl
  | a :: t, k, hp, h => by
    have ha := h a (by simp)
    have hm : (r.an.l.any fun b => decide (a = b)) = true := List.any_eq_true.2 ⟨a, ha.1, by simp⟩
    simp only [anE]
    rw [if_pos hm, if_pos ha.2]
    exact anE_sub (List.Pairwise.of_cons hp) fun b hb => ⟨(h b (List.mem_cons_of_mem _ hb)).1, List.rel_of_pairwise_cons hp hb⟩

theorem passE_poss (hw : Wk w) {i : Int} (h0 : 0 ≤ i) (h1 : i < w.rs.l.length) {x : P} (hx : x ∈ poss w i) {a : List P} (hl : lastR a < i) (hc : confs w x a = false) : passE w x a = 0 := by
  obtain ⟨hpin, hr, hs1, hs2, hn, _, hsub, hop⟩ := poss_in hw h0 h1 hx
  have hq := hw.rq h0 h1
  unfold passE
  rw [hr]
  rw [if_pos (wi_iff.2 ⟨h0, by omega⟩), if_pos hl, if_pos (wi_iff.2 ⟨hs1, by omega⟩), if_pos hn]
  have han : anE (w.rq i) (-1) x.an.l = 0 := anE_sub (hq.anord.sublist hsub) fun b hb => ⟨hsub.subset hb, by have := (hq.anin b (hsub.subset hb)).1; omega⟩
  have hno : ¬ (x.an.l.any fun a => !openB w a x.start (w.rq i).len) = true := by
    rw [List.any_eq_true]
    rintro ⟨b, hb, h⟩
    rw [hop b hb] at h; exact absurd h (by decide)
  rw [if_pos han, if_neg hno, hc]
  rfl

/-- A placement can be added at its place. -/
theorem chk_ins (hw : Wk w) {a b : List P} {i : Int} {n : Nat} (h0 : 0 ≤ i) (h1 : i < w.rs.l.length) (hz : zs w [] (a ++ b)) (hin : ∀ p ∈ a ++ b, PIn w p) {x : P} (hx : x ∈ plcs w (a ++ b) i) (ha : lastR a < i) (hb : ∀ p ∈ b.head?, i < p.req) :
    zs w [] (a ++ reS n x :: b) := by
  obtain ⟨hxp, hxc⟩ := List.mem_filter.1 hx
  have hxc : confs w x (a ++ b) = false := by simpa using hxc
  obtain ⟨hpin, hr, _⟩ := poss_in hw h0 h1 hxp
  rw [confs_app, Bool.or_eq_false_iff] at hxc
  obtain ⟨z1, z2⟩ := zs_app.1 hz
  rw [List.nil_append] at z2
  have hcb : ∀ p ∈ b, conf w (reS n x) p = false := by
    intro p hp
    rw [conf_re, conf_symm hw hpin (hin p (List.mem_append_right _ hp))]
    have := hxc.2
    unfold confs at this
    rw [List.any_eq_false] at this
    simpa using this p hp
  refine zs_app.2 ⟨z1, ?_⟩
  rw [List.nil_append]
  refine ⟨?_, ?_⟩
  · show passE w x a = 0
    exact passE_poss hw h0 h1 hxp ha hxc.1
  · have := zs_ins (pre := a) (x := reS n x) (b := b) (mid := []) (by rw [List.append_nil]; exact z2) hcb (fun _ p hp => by show x.req < p.req; rw [hr]; exact hb p hp)
    exact this
end
end Go.Ax.Sx.Sc

namespace Go.Ax.Sx.Sc
open Go.Ax
set_option linter.unusedSimpArgs false
set_option linter.unusedVariables false
set_option maxRecDepth 100000

section
variable {w : W}

theorem possAt_c {i st : Int} (h0 : 0 ≤ i) (h1 : i < w.rs.l.length) : possAt (cW w) i st = possAt w i st := by
  unfold possAt readyA
  rw [cW_rq h0 h1]
  simp only [openB_c]
  rfl
theorem possFrom_c {i : Int} (h0 : 0 ≤ i) (h1 : i < w.rs.l.length) : ∀ {n : Nat} {st : Int}, possFrom (cW w) i st n = possFrom w i st n
  | 0, _ => rfl
  | n + 1, st => by simp only [possFrom]; rw [possAt_c h0 h1, possFrom_c h0 h1]
theorem poss_c {i : Int} (h0 : 0 ≤ i) (h1 : i < w.rs.l.length) : poss (cW w) i = poss w i := by
  unfold poss
  rw [possFrom_c h0 h1, cW_rq h0 h1]; rfl
theorem plcs_c (hw : Wk w) {l : List P} {i : Int} (h0 : 0 ≤ i) (h1 : i < w.rs.l.length) (hl : ∀ x ∈ l, 0 ≤ x.req ∧ x.req < w.rs.l.length) : plcs (cW w) (l.map cP) i = plcs w l i := by
  unfold plcs
  rw [poss_c h0 h1]
  apply List.filter_congr
  intro x hx
  obtain ⟨hpin, hr, _, _, _, han, _⟩ := poss_in hw h0 h1 hx
  have hx2 : cP x = x := by
    unfold cP; rw [← han]
  have := confs_c (w := w) (p := x) (l := l) hpin.r0 hpin.r1 hl
  rw [hx2] at this
  rw [this]
theorem pOf_c {l : List P} {i : Int} : (pOf (l.map cP) i).isSome = (pOf l i).isSome := by
  unfold pOf
  rw [List.find?_map]
  rw [Option.isSome_map]
  rfl
theorem plcE_c {l : List P} {i : Int} : plcE (cW w) (l.map cP) i = plcE w l i := by
  unfold plcE
  rw [planE_c, pOf_c, cW_len]

/-- How many passes come before a request's. -/
def atN (l : List P) (i : Int) : Nat := (l.takeWhile fun p => decide (p.req < i)).length
theorem atN_lt {i : Int} : ∀ {l : List P} {k : Nat} {p : P}, k < atN l i → l[k]? = some p → p.req < i
  | [], _, _, h, _ => absurd h (Nat.not_lt_zero _)
  | x :: r, k, p, hk, hp => by
    unfold atN at hk
    by_cases hx : x.req < i
    · rw [List.takeWhile_cons_of_pos (by simpa using hx)] at hk
      cases k with
      | zero => simp at hp; rw [← hp]; exact hx
      | succ k => exact atN_lt (l := r) (k := k) (by unfold atN; simpa using hk) (by simpa using hp)
    · rw [List.takeWhile_cons_of_neg (by simpa using hx)] at hk
      exact absurd hk (Nat.not_lt_zero _)
theorem atN_le {l : List P} {i : Int} : atN l i ≤ l.length := (List.takeWhile_prefix _).length_le
theorem atN_ge {l : List P} {i : Int} : ∀ {p : P}, l[atN l i]? = some p → ¬ p.req < i := by
  unfold atN
  induction l with
  | nil => intro p h; simp at h
  | cons x r ih =>
    intro p h
    by_cases hx : x.req < i
    · rw [List.takeWhile_cons_of_pos (by simpa using hx)] at h
      exact ih (by simpa using h)
    · rw [List.takeWhile_cons_of_neg (by simpa using hx)] at h
      simp at h; rw [← h]; exact hx
theorem lastR_at {l : List P} {i : Int} (h0 : 0 ≤ i) : lastR (l.take (atN l i)) < i := by
  rcases Nat.eq_zero_or_pos (atN l i) with h | h
  · rw [h]; show (-1 : Int) < i; omega
  · obtain ⟨p, hp⟩ := get_some (l := l) (k := atN l i - 1) (by have := atN_le (l := l) (i := i); omega)
    have hlt := atN_lt (l := l) (i := i) (k := atN l i - 1) (by omega) hp
    obtain ⟨j, hj⟩ : ∃ j, atN l i = j + 1 := ⟨atN l i - 1, by omega⟩
    rw [hj] at hp ⊢
    rw [lastR_take (show l[j]? = some p from hp)]; exact hlt

/-- The plan with a placement. -/
theorem ins_ok (hw : Wk w) {l : List P} (hl : PlOk l) {i : Int} {n : Nat} (h0 : 0 ≤ i) (h1 : i < w.rs.l.length) (hz : (chkE w l).2 = 0) (hp : (pOf l i).isSome = false) {x : P} (hx : x ∈ plcs w l i) :
    (chkE w (l.take (atN l i) ++ reS n x :: l.drop (atN l i))).2 = 0 ∧ PlOk (l.take (atN l i) ++ reS n x :: l.drop (atN l i)) := by
  have hin := chk_pin hw hl hz
  have hzs := zs_chk hw hl hz
  have hsp : l.take (atN l i) ++ l.drop (atN l i) = l := List.take_append_drop _ _
  have hmax := zs_max hw hzs
  obtain ⟨hxp, _⟩ := List.mem_filter.1 hx
  obtain ⟨hpin, hr, _, _, hn, _, hsub, _⟩ := poss_in hw h0 h1 hxp
  have := chk_ins (n := n) hw (a := l.take (atN l i)) (b := l.drop (atN l i)) h0 h1 (by rw [hsp]; exact hzs) (by rw [hsp]; exact hin) (x := x) (by rw [hsp]; exact hx) (lastR_at h0) (fun p hpm => by
    rw [List.head?_drop] at hpm
    have h2 := atN_ge hpm
    have hne : p.req ≠ i := by
      intro he
      unfold pOf at hp
      have hm := List.mem_of_getElem? hpm
      have : (l.find? fun x => decide (x.req = i)).isSome = true := List.find?_isSome.2 ⟨p, hm, by simpa using he⟩
      rw [this] at hp; exact absurd hp (by decide)
    omega)
  refine ⟨by rw [chk_zs this], ?_, fun p hp => ?_⟩
  · rw [List.length_append, List.length_cons, List.length_take, List.length_drop]; omega
  · rw [List.mem_append, List.mem_cons] at hp
    rcases hp with hp | rfl | hp
    · exact hl.ok p (List.mem_of_mem_take hp)
    · have hq := hw.few.an _ (W.rq_mem h0 h1)
      have := hsub.length_le
      exact ⟨stS_ok, by show x.an.l.length ≤ 6; omega⟩
    · exact hl.ok p (List.mem_of_mem_drop hp)
end
end Go.Ax.Sx.Sc
