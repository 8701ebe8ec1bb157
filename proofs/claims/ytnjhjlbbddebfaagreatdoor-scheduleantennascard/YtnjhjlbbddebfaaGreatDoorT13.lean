/-
  What a week is among the values that an argument may read as.
-/
import Derived.Test.YtnjhjlbbddebfaaGreatDoorT12
import Derived.Test.YtnjhjlbbddebfaaGreatDoorT11
import Derived.Test.YtnjhjlbbddebfaaGreatDoorT7
namespace Go.Ax.Sx.Sc
open Go.Ax
set_option linter.unusedSimpArgs false
set_option linter.unusedVariables false
set_option maxRecDepth 100000

/-! ### Lists whose elements are written to -/

theorem appm_nil {s : Sig} {bs : List (List AV)} {tk : List (Option Nat)} {es : Nat} {o : Own} {row : List AV} : appendmOp (s.push ⟨bs, tk⟩) es (.slice .nilS 0 []) (.slice o es [row]) = some (.rsl s.acts.length bs.length 0 es 1 0, s.push ⟨bs ++ [row], tk⟩) := by
  simp [appendmOp, Own.isNil, most, cur_push, nbox_push, newBox_push]
theorem appm_grow {s : Sig} {bs : List (List AV)} {tk : List (Option Nat)} {es n b : Nat} {o : Own} {row r2 : List AV} (hb : bs[b]? = some row) (hl : row.length = n * es) (hn : 0 < n) (hm : n + 1 ≤ 4294967296) :
    appendmOp (s.push ⟨bs, tk⟩) es (.rsl s.acts.length b 0 es n 0) (.slice o es [r2]) = some (.rsl s.acts.length bs.length 0 es (n + 1) 0, s.push ⟨bs.set b [] ++ [row ++ r2], tk ++ [none]⟩) := by
  have hbox : (s.push ⟨bs, tk⟩).box s.acts.length b = some row := by rw [box_push]; exact hb
  have hreg : (s.push ⟨bs, tk⟩).regrow b (row ++ r2) = s.push ⟨bs.set b [] ++ [row ++ r2], tk ++ [none]⟩ := by
    unfold Sig.regrow
    rw [cur_push, onRec_push]
  simp [appendmOp, most, cur_push, nbox_push, hn, hm, hbox, hl, hreg]

theorem chunks_flat {es : Nat} : ∀ {xs : List (List AV)}, (∀ r ∈ xs, r.length = es) → chunks es xs.length xs.flatten = xs
  | [], _ => rfl
  | r :: xs, h => by
    have hr := h r (by simp)
    simp only [List.length_cons, chunks, List.flatten_cons]
    rw [List.take_left' hr, List.drop_left' hr, chunks_flat fun q hq => h q (List.mem_cons_of_mem _ hq)]

/-- ranges, as they lie in one row -/
def flG (out : List (Int × Int)) : List AV := (out.map rowG).flatten
theorem flG_len {out : List (Int × Int)} : (flG out).length = out.length * 2 := by
  induction out with
  | nil => rfl
  | cons p r ih => simp only [flG, List.map_cons, List.flatten_cons, List.length_append, List.length_cons, List.length_nil] at *; omega
theorem flG_snoc {out : List (Int × Int)} {p : Int × Int} : flG (out ++ [p]) = flG out ++ [I p.1, I p.2] := by simp [flG, rowG]
theorem flG_close {out : List (Int × Int)} : closeAll (flG out) = some (flG out) := by
  induction out with
  | nil => rfl
  | cons p r ih => simp only [flG, List.map_cons, List.flatten_cons, rowG, List.cons_append, List.nil_append, closeAll_cons, close_int] at *; rw [ih]; rfl

/-- The free ranges up to a slot. -/
def stepR (busy : Nat → Bool) (out : List (Int × Int)) (t : Nat) : List (Int × Int) :=
  if busy t = true then out else match out.getLast? with
    | some p => if p.2 = (t : Int) - 1 then out.dropLast ++ [(p.1, (t : Int))] else out ++ [((t : Int), (t : Int))]
    | none => [((t : Int), (t : Int))]
def frsF (busy : Nat → Bool) : Nat → List (Int × Int)
  | 0 => []
  | n + 1 => stepR busy (frsF busy n) n
theorem frsF_len {busy : Nat → Bool} : ∀ {n : Nat}, (frsF busy n).length ≤ n
  | 0 => Nat.le_refl _
  | n + 1 => by
    have ih := frsF_len (busy := busy) (n := n)
    simp only [frsF, stepR]
    split
    · omega
    · split
      · split
        · rw [List.length_append, List.length_dropLast]; simp; omega
        · rw [List.length_append]; simp; omega
      · simp

/-- ranges that are being put together: nil, or in a box of their own -/
def GB (s : Sig) (sh : Nat → Nat) (out : List (Int × Int)) (x : AV) (bx : List (List AV)) : Prop :=
  (out = [] ∧ x = .slice .nilS 0 []) ∨ (∃ init p, out = init ++ [p] ∧ ∃ pre, bx = pre ++ [flG (init ++ [p])] ∧ x = .rsl s.acts.length (sh pre.length) 0 2 (init.length + 1) 0)
theorem flG_get {init : List (Int × Int)} {p : Int × Int} : (flG (init ++ [p]))[0 + init.length * 2 + 1]? = some (I p.2) := by
  rw [flG_snoc, Nat.zero_add, ← flG_len]
  exact at_len1
theorem flG_over {init : List (Int × Int)} {p : Int × Int} {n : Int} : overN (flG (init ++ [p])) (0 + init.length * 2 + 1) [I n] = some (flG (init ++ [(p.1, n)])) := by
  rw [overN_eq, if_pos (by rw [flG_len]; simp; omega), flG_snoc, flG_snoc, Nat.zero_add, ← flG_len]
  simp only [setCells]
  rw [set_len1]
theorem len_rsl {d b off es n cap : Nat} : lenOp false (.rsl d b off es n cap) = some (I (n : Int)) := rfl
theorem ix_rsl {d b es n : Nat} {i : Nat} (h : i < n) : indexAddrOp none es (.rsl d b 0 es n 0) (I (i : Int)) = some (.ptr d b (0 + i * es)) := by
  have h1 : idx (I (i : Int)) n = some i := by simp [idx]; omega
  simp [indexAddrOp, h1]

theorem leave_rslG {s : Sig} {r : Rec} {b : Nat} {out : List (Int × Int)} (h : r.boxes[b]? = some (flG out)) : leaveVal (s.push r) (.rsl s.acts.length b 0 2 out.length 0) = some (.slice .any 2 (out.map rowG)) := by
  have hc := chunks_flat (es := 2) (xs := out.map rowG) (fun r hr => by obtain ⟨p, _, rfl⟩ := List.mem_map.1 hr; rfl)
  rw [List.length_map] at hc
  have hv : leaveVal (s.push r) (.rsl s.acts.length b 0 2 out.length 0) = leaveCell (s.push r) (.rsl s.acts.length b 0 2 out.length 0) := rfl
  rw [hv, leaveCell, if_pos (by rw [cur_push]), box_push, h]
  simp only [Option.bind_some, flG_len, Nat.zero_add, Nat.le_refl, if_true, flG_close, Option.map_some, List.drop_zero]
  rw [show flG out = (out.map rowG).flatten from rfl, hc]

section
variable {s : Sig} {w : W}

theorem w_openSlots {a : Int} (hw : Wk w) (h0 : 0 ≤ a) (h1 : a < w.as.l.length) : callL AP (.fn 27) [OW w, I a] s = some (I (((List.range w.slots.toNat).countP fun t => !clq w.as.l a.toNat t : Nat) : Int), s) := by
  have hal := hw.v.al
  have hn1 := hw.v.n1
  have hn2 := hw.v.n2
  obtain ⟨i, rfl⟩ : ∃ i : Nat, a = i := ⟨a.toNat, by omega⟩
  obtain ⟨n, hn⟩ : ∃ n : Nat, w.slots = n := ⟨w.slots.toNat, by omega⟩
  have hi1 : idx (.v (.int .i64 (i : Int))) 4 = some i := idx_nat (by omega)
  have key : ∀ (k : Nat) ρ m, k ≤ n → (ρ 0 = OW w ∧ ρ 1 = I i ∧ ρ 5 = I (((List.range k).countP fun t => !clq w.as.l i t : Nat) : Int) ∧ ρ 11 = I n ∧ ρ 12 = I k ∧ m = s.push ⟨[], []⟩) →
      go AP f_w_openSlots (.c (.loop b_w_openSlots_l0) :: k_w_openSlots_0) ⟨ρ, m⟩ = some (I (((List.range n).countP fun t => !clq w.as.l i t : Nat) : Int), s) := by
    refine loop_up n _ _ ?_ ?_
    · rintro k ρ m hk ⟨g0, g1, g5, g11, g12, rfl⟩ ih
      have hi2 : idx (.v (.int .i64 (k : Int))) 200 = some k := idx_nat (by omega)
      have hat : (wk w.slots (w.as.v rowA) (w.rs.v rowR) (closedF w.as.l))[0 + 3 + i * 200 + k * 1]? = some (B (clq w.as.l i k)) := by
        rw [show 0 + 3 + i * 200 + k * 1 = 3 + (i * 200 + k) by omega, wk_at (by omega), closedF_eq, show (i * 200 + k) / 200 = i by omega, show (i * 200 + k) % 200 = k by omega]
      have hwk := wrap_succ hk (show (n : Int) < _ by omega)
      have hcl : (List.range k).countP (fun t => !clq w.as.l i t) ≤ k := by have := List.countP_le_length (p := fun t => !clq w.as.l i t) (l := List.range k); rw [List.length_range] at this; exact this
      have hnx : (List.range (k + 1)).countP (fun t => !clq w.as.l i t) = (List.range k).countP (fun t => !clq w.as.l i t) + if clq w.as.l i k = true then 0 else 1 := by
        rw [List.range_succ, List.countP_append, List.countP_singleton]
        cases clq w.as.l i k <;> rfl
      simp only [OW] at g0
      cases hc : clq w.as.l i k with
      | true =>
        rw [hc] at hat hnx
        simp (maxSteps := 1000000) only [go_sem, b_w_openSlots_l0, g0, g1, g11, g12, lt_dec hk, hi1, hi2, hat, hwk, Bool.not_true, Nat.reduceEqDiff, reduceCtorEq, Nat.reduceAdd, ↓reduceIte]
        refine ih _ _ ?_
        exact ⟨by simp only [OW]; exact g0, g1, by rw [hnx]; exact g5, g11, rfl, rfl⟩
      | false =>
        rw [hc] at hat hnx
        have w1 : IntKind.i64.wrap ((((List.range k).countP fun t => !clq w.as.l i t : Nat) : Int) + 1) = (((List.range k).countP (fun t => !clq w.as.l i t) + 1 : Nat) : Int) := by rw [wrap_id (by omega) (by omega)]; omega
        simp (maxSteps := 1000000) only [go_sem, b_w_openSlots_l0, g0, g1, g5, g11, g12, lt_dec hk, hi1, hi2, hat, hwk, w1, Bool.not_false, Nat.reduceEqDiff, reduceCtorEq, Nat.reduceAdd, ↓reduceIte]
        refine ih _ _ ?_
        exact ⟨by simp only [OW]; exact g0, g1, by rw [hnx]; rfl, g11, rfl, rfl⟩
    · rintro ρ m ⟨g0, g1, g5, g11, g12, rfl⟩
      simp (maxSteps := 1000000) only [go_sem, b_w_openSlots_l0, b_w_openSlots_r0, g5, g11, g12, ge_dec, Nat.reduceEqDiff, ↓reduceIte]
  rw [hn, Int.toNat_natCast, Int.toNat_natCast]
  rw [callL_go (show AP 27 = some c_w_openSlots from rfl) rfl]
  simp only [OW] at key ⊢
  simp (maxSteps := 1000000) only [go_sem, b_w_openSlots, nilc_e, wk_0, hn, reduceCtorEq, Nat.reduceAdd, ↓reduceIte]
  rw [hn] at key
  refine key 0 _ _ (Nat.zero_le _) ?_
  exact ⟨rfl, rfl, rfl, rfl, rfl, rfl⟩

/-- the error of an antenna of a plan -/
def antsO (w : W) (l : List P) (a : Int) : Int := if (planE w l).2 = 0 then cond (wi a 0 (w.as.l.length - 1)) 0 6 else (planE w l).2

theorem s_openAntenna {l : List P} {o : Own} {e : Nat} {a : Int} (hs : Ok s) (hw : w.Ok) (hf : w.Few) (hl : PlOk l) (he : l = [] ∨ e = 3) : callL AP (.fn 22) [w.v, .slice o e (l.map rowP), I a] s = some (.tuple [if (planE w l).2 = 0 then OW w else NP, I (antsO w l a)], s) := by
  have hop : ∀ r, callL AP (.fn 36) [w.v, .slice o e (l.map rowP)] (s.push r) = some (.tuple [if (weekE w).2.2 = 0 then OW w else NP, I (planE w l).1, I (planE w l).2], s.push r) := fun r => s_openPlan (hs.push r) hw hf hl he
  simp only [W.v, rowW, Sl.v] at hop
  unfold antsO
  by_cases h0 : (planE w l).2 = 0
  · have hwz : (weekE w).2.2 = 0 := by
      by_cases h : (weekE w).2.2 = 0
      · exact h
      · unfold planE at h0; rw [if_neg h] at h0; exact absurd h0 h
    have hwk : Wk w := ⟨hw, hf, weekE_ok hwz⟩
    have hae : ∀ r, callL AP (.fn 40) [OW w, I a] (s.push r) = some (I (cond (wi a 0 (w.as.l.length - 1)) 0 6), s.push r) := fun r => w_antennaErr hwk
    rw [if_pos hwz, h0] at hop
    rw [if_pos h0, if_pos h0]
    simp only [OW] at hop hae ⊢
    rw [callL_go (show AP 22 = some c_s_openAntenna from rfl) rfl]
    simp (maxSteps := 1000000) only [go_sem, b_s_openAntenna, hop, hae, ne_eq, not_true, Nat.reduceEqDiff, Nat.reduceAdd, ↓reduceIte]
  · rw [if_neg h0, if_neg h0]
    rw [callL_go (show AP 22 = some c_s_openAntenna from rfl) rfl]
    simp (maxSteps := 1000000) only [go_sem, b_s_openAntenna, hop, h0, ne_eq, not_false_iff, Nat.reduceEqDiff, Nat.reduceAdd, ↓reduceIte]
end
end Go.Ax.Sx.Sc

namespace Go.Ax.Sx.Sc
open Go.Ax
set_option linter.unusedSimpArgs false
set_option linter.unusedVariables false
set_option maxRecDepth 100000

section
variable {s : Sig} {w : W}

def busyB (w : W) (l : List P) (a : Int) (t : Nat) : Bool := takB w l a (t : Int) || clq w.as.l a.toNat t

theorem stepR_busy {busy : Nat → Bool} {out : List (Int × Int)} {t : Nat} (h : busy t = true) : stepR busy out t = out := by
  unfold stepR; rw [if_pos h]
theorem stepR_nil {busy : Nat → Bool} {t : Nat} (h : busy t = false) : stepR busy [] t = [((t : Int), (t : Int))] := by
  unfold stepR; rw [if_neg (by rw [h]; decide)]; rfl
theorem stepR_ext {busy : Nat → Bool} {init : List (Int × Int)} {p : Int × Int} {t : Nat} (h : busy t = false) (hp : p.2 = (t : Int) - 1) : stepR busy (init ++ [p]) t = init ++ [(p.1, (t : Int))] := by
  unfold stepR; rw [if_neg (by rw [h]; decide), List.getLast?_concat]
  simp only
  rw [if_pos hp, List.dropLast_concat]
theorem stepR_new {busy : Nat → Bool} {init : List (Int × Int)} {p : Int × Int} {t : Nat} (h : busy t = false) (hp : ¬ p.2 = (t : Int) - 1) : stepR busy (init ++ [p]) t = (init ++ [p]) ++ [((t : Int), (t : Int))] := by
  unfold stepR; rw [if_neg (by rw [h]; decide), List.getLast?_concat]
  simp only
  rw [if_neg hp]

theorem acc_rows {out : List (Int × Int)} (h : out ≠ []) : AV.slice .any 2 (out.map rowG) = accV 2 (out.map rowG) := by
  cases out with
  | nil => exact absurd rfl h
  | cons _ _ => rfl

theorem s_FreeOf {l : List P} {o : Own} {e : Nat} {a : Int} (hs : Ok s) (hw : w.Ok) (hf : w.Few) (hl : PlOk l) (he : l = [] ∨ e = 3) (hin : (planE w l).2 = 0 → ∀ p ∈ l, PIn w p ∧ endP w p ≤ 200) :
    callL AP (.fn 7) [w.v, .slice o e (l.map rowP), I a] s = some (.tuple [accV 2 ((if antsO w l a = 0 then frsF (busyB w l a) w.slots.toNat else []).map rowG), I (antsO w l a)], s) := by
  have hoa : ∀ r, callL AP (.fn 22) [w.v, .slice o e (l.map rowP), I a] (s.push r) = some (.tuple [if (planE w l).2 = 0 then OW w else NP, I (antsO w l a)], s.push r) := fun r => s_openAntenna (hs.push r) hw hf hl he
  simp only [W.v, rowW, Sl.v] at hoa
  by_cases h0 : antsO w l a = 0
  · have hp0 : (planE w l).2 = 0 := by
      unfold antsO at h0
      by_cases h : (planE w l).2 = 0
      · exact h
      · rw [if_neg h] at h0; exact absurd h0 h
    have hwa : wi a 0 (w.as.l.length - 1) = true := by
      unfold antsO at h0
      rw [if_pos hp0] at h0
      cases hc : wi a 0 (w.as.l.length - 1) with
      | true => rfl
      | false => rw [hc] at h0; exact absurd h0 (by decide)
    have hwz : (weekE w).2.2 = 0 := by
      by_cases h : (weekE w).2.2 = 0
      · exact h
      · unfold planE at hp0; rw [if_neg h] at hp0; exact absurd hp0 h
    have hwk : Wk w := ⟨hw, hf, weekE_ok hwz⟩
    have hin := hin hp0
    have hal := hwk.v.al
    have hn1 := hwk.v.n1
    have hn2 := hwk.v.n2
    obtain ⟨ha0, ha1⟩ := wi_iff.1 hwa
    obtain ⟨i, rfl⟩ : ∃ i : Nat, a = i := ⟨a.toNat, by omega⟩
    obtain ⟨n, hn⟩ : ∃ n : Nat, w.slots = n := ⟨w.slots.toNat, by omega⟩
    have hi1 : idx (.v (.int .i64 (i : Int))) 4 = some i := idx_nat (by omega)
    rw [if_pos hp0, h0] at hoa
    have hoc : ∀ r, callL AP (.fn 23) [OW w, .slice o e (l.map rowP), I (i : Int)] (s.push r) = some (.tuple [I (occN w (i : Int) l), .agg (gu fun t => takB w l (i : Int) t)], s.push r) := fun r => w_occupied (hs.push r) hwk hl.len hin he
    obtain ⟨F, hF⟩ : ∃ F : Nat → Bool, F = fun t : Nat => takB w l (i : Int) (t : Int) := ⟨_, rfl⟩
    have hFt : ∀ t : Nat, takB w l (i : Int) (t : Int) = F t := fun t => by rw [hF]
    have hbz : ∀ t : Nat, busyB w l (i : Int) t = (F t || clq w.as.l i t) := fun t => by unfold busyB; rw [hFt, Int.toNat_natCast]
    rw [← hF] at hoc
    simp only [h0, if_true]
    rw [hn, Int.toNat_natCast]
    have key : ∀ (k : Nat) ρ m, k ≤ n → (ρ 2 = I i ∧ ρ 8 = OW w ∧ ρ 11 = .ptr s.acts.length 1 0 ∧ ρ 33 = I w.slots ∧ ρ 34 = I k ∧ ∃ bx tk, GB s (fun q => q + 1 + 1) (frsF (busyB w l i) k) (ρ 12) bx ∧ m = s.push ⟨rowW w :: gu F :: bx, tk⟩) →
        go AP f_s_FreeOf (.c (.loop b_s_FreeOf_l0) :: k_s_FreeOf_0) ⟨ρ, m⟩ = some (.tuple [accV 2 ((frsF (busyB w l i) n).map rowG), I 0], s) := by
      refine loop_up n _ _ ?_ ?_
      · rintro k ρ m hk ⟨g2, g8, g11, g33', g34, bx, tk, hG, rfl⟩ ih
        have g33 := g33'
        rw [hn] at g33
        have hi2 : idx (.v (.int .i64 (k : Int))) 200 = some k := idx_nat (by omega)
        have hgu : (gu F)[0 + k * 1]? = some (B (F k)) := by rw [show 0 + k * 1 = k by omega]; exact gu_get (by omega)
        have hat : (wk w.slots (w.as.v rowA) (w.rs.v rowR) (closedF w.as.l))[0 + 3 + i * 200 + k * 1]? = some (B (clq w.as.l i k)) := by
          rw [show 0 + 3 + i * 200 + k * 1 = 3 + (i * 200 + k) by omega, wk_at (by omega), closedF_eq, show (i * 200 + k) / 200 = i by omega, show (i * 200 + k) % 200 = k by omega]
        have hwk1 := wrap_succ hk (show (n : Int) < _ by omega)
        have hfl := frsF_len (busy := busyB w l (i : Int)) (n := k)
        have hb := hbz k
        simp only [OW] at g8
        cases hFk : F k with
        | true =>
          rw [hFk] at hgu hb
          simp (maxSteps := 1000000) only [go_sem, b_s_FreeOf_l0, g11, g33, g34, lt_dec hk, hi2, hgu, hwk1, Nat.reduceEqDiff, ↓reduceIte]
          refine ih _ _ ?_
          exact ⟨g2, by simp only [OW]; exact g8, g11, g33', rfl, bx, tk, by simp only [frsF]; rw [stepR_busy (by rw [hb]; rfl)]; exact hG, rfl⟩
        | false =>
          rw [hFk] at hgu hb
          cases hc : clq w.as.l i k with
          | true =>
            rw [hc] at hat hb
            simp (maxSteps := 1000000) only [go_sem, b_s_FreeOf_l0, g2, g8, g11, g33, g34, lt_dec hk, hi1, hi2, hgu, hat, hwk1, Nat.reduceEqDiff, Nat.reduceAdd, ↓reduceIte]
            refine ih _ _ ?_
            exact ⟨g2, by simp only [OW]; exact g8, g11, g33', rfl, bx, tk, by simp only [frsF]; rw [stepR_busy (by rw [hb]; rfl)]; exact hG, rfl⟩
          | false =>
            rw [hc] at hat hb
            have hbf : busyB w l (i : Int) k = false := hb
            have hbc : fillRow [I 0, I 0] 0 1 (I (k : Int)) = some [I (k : Int), I 0] := rfl
            rcases hG with ⟨h1, h2⟩ | ⟨init, p, h1, pre, rfl, h2⟩
            · have ha : appendmOp (s.push ⟨rowW w :: gu F :: bx, tk⟩) 2 (.slice .nilS 0 []) (.slice .full 2 [[I (k : Int), I (k : Int)]]) = some (.rsl s.acts.length (bx.length + 1 + 1) 0 2 1 0, s.push ⟨rowW w :: gu F :: (bx ++ [[I (k : Int), I (k : Int)]]), tk⟩) := by
                rw [appm_nil]; simp
              simp only [rowW, Sl.v] at ha
              simp (maxSteps := 1000000) only [go_sem, b_s_FreeOf_l0, g2, g8, g11, g33, g34, h2, lt_dec hk, hi1, hi2, hgu, hat, hwk1, ha, Nat.reduceEqDiff, Nat.reduceAdd, Int.reduceLT, Int.cast_ofNat_Int, ↓reduceIte]
              refine ih _ _ ?_
              refine ⟨g2, by simp only [OW]; exact g8, g11, g33', rfl, _, tk, .inr ⟨[], ((k : Int), (k : Int)), ?_, bx, rfl, rfl⟩, rfl⟩
              simp only [frsF]; rw [h1, stepR_nil hbf]; rfl
            · have hil : init.length + 1 ≤ 200 := by
                have := hfl
                rw [h1, List.length_append, List.length_singleton] at this; omega
              have hpos : decide ((0 : Int) < ((init.length + 1 : Nat) : Int)) = true := decide_eq_true (by omega)
              have hsub : IntKind.i64.wrap (((init.length + 1 : Nat) : Int) - 1) = (init.length : Int) := by rw [wrap_id (by omega) (by omega)]; omega
              have hks : IntKind.i64.wrap ((k : Int) - 1) = (k : Int) - 1 := wrap_id (by omega) (by omega)
              have hix := ix_rsl (d := s.acts.length) (b := pre.length + 1 + 1) (es := 2) (i := init.length) (n := init.length + 1) (by omega)
              have hget := flG_get (init := init) (p := p)
              by_cases hpk : p.2 = (k : Int) - 1
              · have hd : decide (p.2 = (k : Int) - 1) = true := by simpa using hpk
                have hov := flG_over (init := init) (p := p) (n := (k : Int))
                simp (maxSteps := 1000000) only [go_sem, b_s_FreeOf_l0, g2, g8, g11, g33, g34, h2, hs, lt_dec hk, hi1, hi2, hgu, hat, hwk1, len_rsl, hpos, hsub, hks, hix, hget, hd, hov, Nat.reduceEqDiff, Nat.reduceAdd, ↓reduceIte]
                refine ih _ _ ?_
                refine ⟨g2, by simp only [OW]; exact g8, g11, g33', rfl, _, tk, .inr ⟨init, (p.1, (k : Int)), ?_, pre, rfl, h2⟩, rfl⟩
                simp only [frsF]; rw [h1, stepR_ext hbf hpk]
              · have hd : decide (p.2 = (k : Int) - 1) = false := by simpa using hpk
                have ha : appendmOp (s.push ⟨rowW w :: gu F :: (pre ++ [flG (init ++ [p])]), tk⟩) 2 (.rsl s.acts.length (pre.length + 1 + 1) 0 2 (init.length + 1) 0) (.slice .full 2 [[I (k : Int), I (k : Int)]]) = some (.rsl s.acts.length ((pre ++ [[]]).length + 1 + 1) 0 2 (init.length + 1 + 1) 0, s.push ⟨rowW w :: gu F :: ((pre ++ [[]]) ++ [flG (init ++ [p]) ++ [I (k : Int), I (k : Int)]]), tk ++ [none]⟩) := by
                  rw [appm_grow (row := flG (init ++ [p])) (by simp) (by rw [flG_len]; simp) (by omega) (by omega)]
                  simp
                simp only [rowW, Sl.v] at ha
                simp (maxSteps := 1000000) only [go_sem, b_s_FreeOf_l0, g2, g8, g11, g33, g34, h2, lt_dec hk, hi1, hi2, hgu, hat, hwk1, len_rsl, hpos, hsub, hks, hix, hget, hd, ha, Nat.reduceEqDiff, Nat.reduceAdd, ↓reduceIte]
                refine ih _ _ ?_
                refine ⟨g2, by simp only [OW]; exact g8, g11, g33', rfl, _, _, .inr ⟨init ++ [p], ((k : Int), (k : Int)), ?_, pre ++ [[]], ?_, by rw [List.length_append (as := init), List.length_append (as := pre)]; rfl⟩, rfl⟩
                · simp only [frsF]; rw [h1, stepR_new hbf hpk]
                · rw [flG_snoc (out := init ++ [p])]; simp
      · rintro ρ m ⟨g2, g8, g11, g33, g34, bx, tk, hG, rfl⟩
        rw [hn] at g33
        rcases hG with ⟨h1, h2⟩ | ⟨init, p, h1, pre, rfl, h2⟩
        · rw [h1]
          simp (maxSteps := 1000000) only [go_sem, b_s_FreeOf_l0, b_s_FreeOf_r0, g33, g34, h2, ge_dec, Nat.reduceEqDiff, ↓reduceIte]
          rfl
        · have hlv := leave_rslG (s := s) (r := ⟨rowW w :: gu F :: (pre ++ [flG (init ++ [p])]), tk⟩) (b := pre.length + 1 + 1) (out := init ++ [p]) (by simp)
          rw [List.length_append, List.length_singleton] at hlv
          rw [h1, ← acc_rows (by simp)]
          simp only [rowW, Sl.v] at hlv
          simp (maxSteps := 1000000) only [go_sem, b_s_FreeOf_l0, b_s_FreeOf_r0, g33, g34, h2, ge_dec, Nat.reduceEqDiff, ↓reduceIte]
          rw [hlv]; rfl
    rw [callL_go (show AP 7 = some c_s_FreeOf from rfl) rfl]
    simp only [OW] at hoa hoc key
    simp (maxSteps := 1000000) only [go_sem, b_s_FreeOf, hs, hoa, hoc, zeros_gu, alloc_gu, fitN_gu, overN_gu, ne_eq, not_true, Nat.reduceEqDiff, Nat.reduceAdd, ↓reduceIte]
    refine key 0 _ _ (Nat.zero_le _) ?_
    exact ⟨rfl, rfl, rfl, rfl, rfl, [], [], .inl ⟨rfl, rfl⟩, rfl⟩
  · simp only [h0, if_false]
    rw [callL_go (show AP 7 = some c_s_FreeOf from rfl) rfl]
    simp (maxSteps := 1000000) only [go_sem, b_s_FreeOf, hoa, h0, ne_eq, not_false_iff, Nat.reduceEqDiff, Nat.reduceAdd, ↓reduceIte]
    rfl
end
end Go.Ax.Sx.Sc

namespace Go.Ax.Sx.Sc
open Go.Ax
set_option linter.unusedSimpArgs false
set_option linter.unusedVariables false
set_option maxRecDepth 100000

section
variable {s : Sig} {w : W}

theorem b_Within_any {m : Sig} {n lo hi : Int} : callL AP (.fn 12) [I n, I lo, I hi] m = some (B (wi n lo hi), m) := b_Within

theorem r_taken {l : List P} {o : Own} {e : Nat} {a t : Int} (hs : Ok s) (hw : Wk w) (hl : l.length ≤ 14) (hin : ∀ p ∈ l, PIn w p) (he : l = [] ∨ e = 3) :
    callL AP (.fn 31) [w.v, .slice o e (l.map rowP), I a, I t] s = some (B (takB w l a t), s) := by
  have key : ∀ (k : Nat) ρ m, k ≤ l.length → (ρ 1 = .slice o e (l.map rowP) ∧ ρ 2 = I a ∧ ρ 3 = I t ∧ ρ 4 = .ptr s.acts.length 0 0 ∧ ρ 9 = I k ∧ m = s.push ⟨[rowW w], []⟩) → go AP f_r_taken (.c (.loop b_r_taken_l0) :: k_r_taken_0) ⟨ρ, m⟩ = some (B (takB w (l.drop k) a t), s) := by
    refine loop_up l.length _ _ ?_ ?_
    · rintro k ρ m hk ⟨g1, g2, g3, g4, g9, rfl⟩ ih
      obtain ⟨p, hp⟩ := get_some hk
      have hec : e = 3 := by rcases he with h | h; (rw [h] at hp; simp at hp); exact h
      subst hec
      have hpi := hin p (List.mem_of_getElem? hp)
      have hr := ix_map (f := rowP) (o := o) (es := 3) hp
      have hq := Sl.ix (f := rowR) hw.ok.rs (W.rq_get hpi.r0 hpi.r1)
      rw [show ((p.req.toNat : Nat) : Int) = p.req by have := hpi.r0; omega] at hq
      have hln := hw.len hpi.r0 hpi.r1
      have h0 := hpi.s0
      have h1 := hpi.s1
      have hh : ∀ m : Sig, callL AP (.fn 16) [p.an.v rowI, I a] m = some (B (hasA p a), m) := fun m => b_Has hpi.ok.1 hpi.len
      have hwk1 := wrap_succ hk (show (l.length : Int) < _ by omega)
      have w1 : IntKind.i64.wrap (IntKind.i64.wrap (p.start + (w.rq p.req).len) - 1) = endP w p - 1 := by
        rw [wrap_id (x := p.start + (w.rq p.req).len) (by omega) (by omega), wrap_id (by omega) (by omega)]; rfl
      have hd : takB w (l.drop k) a t = ((hasA p a && wi t p.start (endP w p - 1)) || takB w (l.drop (k + 1)) a t) := by unfold takB; rw [drop_get hp, List.any_cons]
      rw [hd]
      simp only [rowP, rowR, Sl.v] at hr hq hh
      cases hha : hasA p a with
      | false =>
        rw [hha] at hh
        simp (maxSteps := 1000000) only [go_sem, b_r_taken_l0, g1, g2, g9, lt_dec hk, hr, hh, hwk1, Nat.reduceEqDiff, Nat.reduceAdd, ↓reduceIte]
        rw [Bool.false_and, Bool.false_or]
        exact ih _ _ ⟨g1, g2, g3, g4, rfl, rfl⟩
      | true =>
        rw [hha] at hh
        cases hwi : wi t p.start (endP w p - 1) with
        | true => simp (maxSteps := 1000000) only [go_sem, b_r_taken_l0, g1, g2, g3, g4, g9, lt_dec hk, hr, hq, hh, w1, b_Within_any, hwi, Bool.true_and, Bool.true_or, Nat.reduceEqDiff, Nat.reduceAdd, ↓reduceIte]
        | false =>
          simp (maxSteps := 1000000) only [go_sem, b_r_taken_l0, g1, g2, g3, g4, g9, lt_dec hk, hr, hq, hh, w1, b_Within_any, hwi, hwk1, Nat.reduceEqDiff, Nat.reduceAdd, ↓reduceIte]
          refine (ih _ _ ?_).trans ?_
          · exact ⟨g1, g2, g3, g4, rfl, rfl⟩
          · rw [Bool.false_or]
    · rintro ρ m ⟨g1, g2, g3, g4, g9, rfl⟩
      simp (maxSteps := 1000000) only [go_sem, b_r_taken_l0, b_r_taken_r0, g1, g9, ge_dec, Nat.reduceEqDiff, ↓reduceIte]
      rw [List.drop_length]; rfl
  rw [callL_go (show AP 31 = some c_r_taken from rfl) rfl]
  simp (maxSteps := 1000000) only [go_sem, b_r_taken, Nat.reduceAdd]
  exact key 0 _ _ (Nat.zero_le _) ⟨rfl, rfl, rfl, rfl, rfl, rfl⟩

theorem clq_closed {as : List A} {i t : Nat} {x : A} (h : as[i]? = some x) : isClosed x (t : Int) = clq as i t := by
  simp only [clq, h]

theorem r_FreeOf {l : List P} {o : Own} {e : Nat} {i : Nat} (hs : Ok s) (hw : Wk w) (hl : l.length ≤ 14) (hin : ∀ p ∈ l, PIn w p) (he : l = [] ∨ e = 3) (hi : i < w.as.l.length) :
    callL AP (.fn 14) [w.v, .slice o e (l.map rowP), I i] s = some (accV 2 ((frsF (busyB w l i) w.slots.toNat).map rowG), s) := by
  have hal := hw.v.al
  have hn1 := hw.v.n1
  have hn2 := hw.v.n2
  obtain ⟨n, hn⟩ : ∃ n : Nat, w.slots = n := ⟨w.slots.toNat, by omega⟩
  obtain ⟨x, hx⟩ := get_some hi
  have hxm := List.mem_of_getElem? hx
  have hix0 := Sl.ix (f := rowA) hw.ok.as hx
  have hcl : ∀ (t : Nat) r, callL AP (.fn 30) [.agg (rowA x), I (t : Int)] (s.push r) = some (B (clq w.as.l i t), s.push r) := fun t r => by
    rw [← clq_closed hx]
    exact r_closed (hs.push r) (hw.ok.cl x hxm).1 (by have := hw.few.cl x hxm; omega)
  have htk : ∀ (t : Nat) r, callL AP (.fn 31) [w.v, .slice o e (l.map rowP), I (i : Int), I (t : Int)] (s.push r) = some (B (takB w l i t), s.push r) := fun t r => r_taken (hs.push r) hw hl hin he
  have hbz : ∀ t : Nat, busyB w l (i : Int) t = (clq w.as.l i t || takB w l i t) := fun t => by unfold busyB; rw [Int.toNat_natCast, Bool.or_comm]
  rw [hn, Int.toNat_natCast]
  have key : ∀ (k : Nat) ρ m, k ≤ n → (ρ 1 = .slice o e (l.map rowP) ∧ ρ 2 = I i ∧ ρ 3 = .ptr s.acts.length 0 0 ∧ ρ 8 = I k ∧ ∃ bx tk, GB s (fun q => q + 1) (frsF (busyB w l i) k) (ρ 7) bx ∧ m = s.push ⟨rowW w :: bx, tk⟩) →
      go AP f_r_FreeOf (.c (.loop b_r_FreeOf_l0) :: k_r_FreeOf_0) ⟨ρ, m⟩ = some (accV 2 ((frsF (busyB w l i) n).map rowG), s) := by
    refine loop_up n _ _ ?_ ?_
    · rintro k ρ m hk ⟨g1, g2, g3, g8, bx, tk, hG, rfl⟩ ih
      have hd0 : decide ((k : Int) < w.slots) = true := by rw [hn]; exact lt_dec hk
      have hwk1 := wrap_succ hk (show (n : Int) < _ by omega)
      have hfl := frsF_len (busy := busyB w l (i : Int)) (n := k)
      have hb := hbz k
      have hcl := hcl k
      have htk := htk k
      simp only [rowA, W.v, rowW, Sl.v] at hix0 hcl htk
      cases hc : clq w.as.l i k with
      | true =>
        rw [hc] at hcl hb
        simp (maxSteps := 1000000) only [go_sem, b_r_FreeOf_l0, g2, g3, g8, hd0, hix0, hcl, hwk1, Nat.reduceEqDiff, Nat.reduceAdd, ↓reduceIte]
        refine ih _ _ ?_
        exact ⟨g1, g2, g3, rfl, bx, tk, by simp only [frsF]; rw [stepR_busy (by rw [hb]; rfl)]; exact hG, rfl⟩
      | false =>
        rw [hc] at hcl hb
        cases ht : takB w l (i : Int) (k : Int) with
        | true =>
          rw [ht] at htk hb
          simp (maxSteps := 1000000) only [go_sem, b_r_FreeOf_l0, g1, g2, g3, g8, hd0, hix0, hcl, htk, hwk1, Nat.reduceEqDiff, Nat.reduceAdd, ↓reduceIte]
          refine ih _ _ ?_
          exact ⟨g1, g2, g3, rfl, bx, tk, by simp only [frsF]; rw [stepR_busy (by rw [hb]; rfl)]; exact hG, rfl⟩
        | false =>
          rw [ht] at htk hb
          have hbf : busyB w l (i : Int) k = false := hb
          rcases hG with ⟨h1, h2⟩ | ⟨init, p, h1, pre, rfl, h2⟩
          · have ha : appendmOp (s.push ⟨rowW w :: bx, tk⟩) 2 (.slice .nilS 0 []) (.slice .full 2 [[I (k : Int), I (k : Int)]]) = some (.rsl s.acts.length (bx.length + 1) 0 2 1 0, s.push ⟨rowW w :: (bx ++ [[I (k : Int), I (k : Int)]]), tk⟩) := by
              rw [appm_nil]; simp
            have hm1 : IntKind.i64.wrap ((0 : Int) - 1) = -1 := by decide
            have hd1 : decide ((0 : Int) ≤ -1) = false := by decide
            simp only [rowW, Sl.v] at ha
            simp (maxSteps := 1000000) only [go_sem, b_r_FreeOf_l0, g1, g2, g3, g8, h2, hd0, hix0, hcl, htk, hwk1, ha, Nat.reduceEqDiff, Nat.reduceAdd, Int.reduceLT, Int.reduceLE, Int.reduceSub, Int.reduceNeg, Int.cast_ofNat_Int, ↓reduceIte]
            refine ih _ _ ?_
            refine ⟨g1, g2, g3, rfl, _, tk, .inr ⟨[], ((k : Int), (k : Int)), ?_, bx, rfl, rfl⟩, rfl⟩
            simp only [frsF]; rw [h1, stepR_nil hbf]; rfl
          · have hil : init.length + 1 ≤ 200 := by
              have := hfl
              rw [h1, List.length_append, List.length_singleton] at this; omega
            have hpos : decide ((0 : Int) ≤ (init.length : Int)) = true := decide_eq_true (by omega)
            have hsub : IntKind.i64.wrap (((init.length + 1 : Nat) : Int) - 1) = (init.length : Int) := by rw [wrap_id (by omega) (by omega)]; omega
            have hks : IntKind.i64.wrap ((k : Int) - 1) = (k : Int) - 1 := wrap_id (by omega) (by omega)
            have hix := ix_rsl (d := s.acts.length) (b := pre.length + 1) (es := 2) (i := init.length) (n := init.length + 1) (by omega)
            have hget := flG_get (init := init) (p := p)
            by_cases hpk : p.2 = (k : Int) - 1
            · have hd : decide (p.2 = (k : Int) - 1) = true := by simpa using hpk
              have hov := flG_over (init := init) (p := p) (n := (k : Int))
              simp (maxSteps := 1000000) only [go_sem, b_r_FreeOf_l0, g1, g2, g3, g8, h2, hs, hd0, hix0, hcl, htk, hwk1, len_rsl, hpos, hsub, hks, hix, hget, hd, hov, Nat.reduceEqDiff, Nat.reduceAdd, ↓reduceIte]
              refine ih _ _ ?_
              refine ⟨g1, g2, g3, rfl, _, tk, .inr ⟨init, (p.1, (k : Int)), ?_, pre, rfl, h2⟩, rfl⟩
              simp only [frsF]; rw [h1, stepR_ext hbf hpk]
            · have hd : decide (p.2 = (k : Int) - 1) = false := by simpa using hpk
              have ha : appendmOp (s.push ⟨rowW w :: (pre ++ [flG (init ++ [p])]), tk⟩) 2 (.rsl s.acts.length (pre.length + 1) 0 2 (init.length + 1) 0) (.slice .full 2 [[I (k : Int), I (k : Int)]]) = some (.rsl s.acts.length ((pre ++ [[]]).length + 1) 0 2 (init.length + 1 + 1) 0, s.push ⟨rowW w :: ((pre ++ [[]]) ++ [flG (init ++ [p]) ++ [I (k : Int), I (k : Int)]]), tk ++ [none]⟩) := by
                rw [appm_grow (row := flG (init ++ [p])) (by simp) (by rw [flG_len]; simp) (by omega) (by omega)]
                simp
              simp only [rowW, Sl.v] at ha
              simp (maxSteps := 1000000) only [go_sem, b_r_FreeOf_l0, g1, g2, g3, g8, h2, hd0, hix0, hcl, htk, hwk1, len_rsl, hpos, hsub, hks, hix, hget, hd, ha, Nat.reduceEqDiff, Nat.reduceAdd, ↓reduceIte]
              refine ih _ _ ?_
              refine ⟨g1, g2, g3, rfl, _, _, .inr ⟨init ++ [p], ((k : Int), (k : Int)), ?_, pre ++ [[]], ?_, by rw [List.length_append (as := init), List.length_append (as := pre)]; rfl⟩, rfl⟩
              · simp only [frsF]; rw [h1, stepR_new hbf hpk]
              · rw [flG_snoc (out := init ++ [p])]; simp
    · rintro ρ m ⟨g1, g2, g3, g8, bx, tk, hG, rfl⟩
      have hd0 : decide ((n : Int) < w.slots) = false := by rw [hn]; exact ge_dec n
      rcases hG with ⟨h1, h2⟩ | ⟨init, p, h1, pre, rfl, h2⟩
      · rw [h1]
        simp (maxSteps := 1000000) only [go_sem, b_r_FreeOf_l0, b_r_FreeOf_r0, g3, g8, h2, hd0, Nat.reduceEqDiff, Nat.reduceAdd, ↓reduceIte]
        rfl
      · have hlv := leave_rslG (s := s) (r := ⟨rowW w :: (pre ++ [flG (init ++ [p])]), tk⟩) (b := pre.length + 1) (out := init ++ [p]) (by simp)
        rw [List.length_append, List.length_singleton] at hlv
        rw [h1, ← acc_rows (by simp)]
        simp only [rowW, Sl.v] at hlv
        simp (maxSteps := 1000000) only [go_sem, b_r_FreeOf_l0, b_r_FreeOf_r0, g3, g8, h2, hd0, Nat.reduceEqDiff, Nat.reduceAdd, ↓reduceIte]
        rw [hlv]; rfl
  rw [callL_go (show AP 14 = some c_r_FreeOf from rfl) rfl]
  simp (maxSteps := 1000000) only [go_sem, b_r_FreeOf, Nat.reduceAdd]
  refine key 0 _ _ (Nat.zero_le _) ?_
  exact ⟨rfl, rfl, rfl, rfl, [], [], .inl ⟨rfl, rfl⟩, rfl⟩

theorem b_Ranges {a : List (Int × Int)} {o1 o2 : Own} {e1 e2 : Nat} (h1 : a = [] ∨ e1 = 2) (h2 : a = [] ∨ e2 = 2) (l1 : a.length ≤ 100000) :
    callL AP (.fn 13) [.slice o1 e1 (a.map rowG), .slice o2 e2 (a.map rowG)] s = some (B true, s) := by
  have key : ∀ (k : Nat) ρ m, k ≤ a.length → (ρ 0 = .slice o1 e1 (a.map rowG) ∧ ρ 1 = .slice o2 e2 (a.map rowG) ∧ ρ 5 = I k ∧ m = s.push ⟨[], []⟩) → go AP f_b_Ranges (.c (.loop b_b_Ranges_l0) :: k_b_Ranges_0) ⟨ρ, m⟩ = some (B true, s) := by
    refine loop_up a.length _ _ ?_ ?_
    · rintro k ρ m hk ⟨g0, g1, g5, rfl⟩ ih
      obtain ⟨x, hx⟩ := get_some hk
      have he1 : e1 = 2 := by rcases h1 with h | h; (rw [h] at hx; simp at hx); exact h
      have he2 : e2 = 2 := by rcases h2 with h | h; (rw [h] at hx; simp at hx); exact h
      subst he1; subst he2
      have r1 := ix_map (o := o1) (es := 2) (f := rowG) hx
      have r2 := ix_map (o := o2) (es := 2) (f := rowG) hx
      have hq : eqOp (.agg [.int, .int]) (.agg [I x.1, I x.2]) (.agg [I x.1, I x.2]) = some true := by
        simp [eqOp, eqCells, eqPlain]
      simp (maxSteps := 1000000) only [go_sem, b_b_Ranges_l0, g0, g1, g5, lt_dec hk, r1, r2, hq, Bool.not_true, wrap_succ hk (show (a.length : Int) < _ by omega), Nat.reduceEqDiff, reduceCtorEq, ↓reduceIte]
      refine ih _ _ ?_
      exact ⟨g0, g1, rfl, rfl⟩
    · rintro ρ m ⟨g0, g1, g5, rfl⟩
      simp (maxSteps := 1000000) only [go_sem, b_b_Ranges_l0, b_b_Ranges_r0, g0, g5, ge_dec, Nat.reduceEqDiff, reduceCtorEq, ↓reduceIte]
  have hd : decide ((a.length : Int) ≠ (a.length : Int)) = false := by simp
  rw [callL_go (show AP 13 = some c_b_Ranges from rfl) rfl]
  simp (maxSteps := 1000000) only [go_sem, b_b_Ranges, hd, Nat.reduceEqDiff, reduceCtorEq, ↓reduceIte]
  refine key 0 _ _ (Nat.zero_le _) ?_
  exact ⟨rfl, rfl, rfl, rfl⟩
end
end Go.Ax.Sx.Sc

namespace Go.Ax.Sx.Sc
open Go.Ax
set_option linter.unusedSimpArgs false
set_option linter.unusedVariables false
set_option maxRecDepth 100000

section
variable {s : Sig} {w : W}

def openN (w : W) (i : Nat) : Nat := (List.range w.slots.toNat).countP fun t => !clq w.as.l i t
def takN (w : W) (l : List P) (a : Int) : Nat := (List.range w.slots.toNat).countP fun t : Nat => takB w l a (t : Int)
theorem countP_le {n : Nat} {f : Nat → Bool} : (List.range n).countP f ≤ n := by
  have := List.countP_le_length (p := f) (l := List.range n)
  rwa [List.length_range] at this
theorem countP_succ {k : Nat} {f : Nat → Bool} : (List.range (k + 1)).countP f = (List.range k).countP f + if f k = true then 1 else 0 := by
  rw [List.range_succ, List.countP_append, List.countP_singleton]

theorem b_Size_n {n : Nat} (h : (n : Int) < 9223372036854775808) : callL AP (.fn 68) [I (n : Int)] s = some (I (n : Int), s) := by
  have hw : IntKind.i64.wrap (0 - (n : Int)) = -(n : Int) := by rw [wrap_id (by omega) (by omega)]; omega
  have hu : unOp .neg (I (n : Int)) = some (I (-(n : Int))) := by
    show some (AV.v (.int .i64 (IntKind.i64.wrap (0 - (n : Int))))) = _
    rw [hw]
  have hm : minmaxOp true [I (n : Int), I (-(n : Int))] = some (I (n : Int)) := by
    have : ¬ (-(n : Int) > (n : Int)) := by omega
    simp [minmaxOp, maxFold, maxOp, this]
  rw [callL_go (show AP 68 = some c_b_Size from rfl) rfl]
  simp (maxSteps := 1000000) only [go_sem, b_b_Size, hu, hm, Nat.reduceEqDiff, reduceCtorEq, ↓reduceIte]

theorem b_Gcd_n {a b : Nat} (ha : (a : Int) < 9223372036854775808) (hb : (b : Int) < 9223372036854775808) : callL AP (.fn 45) [I (a : Int), I (b : Int)] s = some (I ((Nat.gcd a b : Nat) : Int), s) := by
  have key : ∀ (n x y : Nat) ρ m, y ≤ n → Nat.gcd x y = Nat.gcd a b → (x : Int) < 9223372036854775808 → (y : Int) < 9223372036854775808 → (ρ 0 = I (x : Int) ∧ ρ 1 = I (y : Int) ∧ m = s.push ⟨[], []⟩) → go AP f_b_Gcd (.c (.loop b_b_Gcd_l0) :: k_b_Gcd_0) ⟨ρ, m⟩ = some (I ((Nat.gcd a b : Nat) : Int), s) := by
    intro n
    induction n with
    | zero =>
      rintro x y ρ m hy hg hx hyl ⟨h0, h1, rfl⟩
      have hy0 : y = 0 := by omega
      subst hy0
      have hx0 : x = Nat.gcd a b := by rw [← hg]; simp
      have hsz : ∀ r, callL AP (.fn 68) [I (x : Int)] (s.push r) = some (I (x : Int), s.push r) := fun r => b_Size_n hx
      rw [go_loop]
      simp (maxSteps := 1000000) only [go_sem, b_b_Gcd_l0, b_b_Gcd_r0, h0, h1, ne_eq, not_true, hsz, reduceCtorEq, Int.cast_ofNat_Int, ↓reduceIte]
      rw [hx0]
    | succ n ih =>
      rintro x y ρ m hy hg hx hyl ⟨h0, h1, rfl⟩
      by_cases hy0 : y = 0
      · exact ih x y ρ _ (by omega) hg hx hyl ⟨h0, h1, rfl⟩
      · have hr := ar_rem_n (a := x) (b := y) (by omega)
        have hd : decide ((y : Int) = 0) = false := decide_eq_false (by omega)
        have hlt := Nat.mod_lt x (show 0 < y by omega)
        rw [go_loop]
        simp (maxSteps := 1000000) only [go_sem, b_b_Gcd_l0, h0, h1, ne_eq, decide_not, hd, hr, Nat.reduceEqDiff, reduceCtorEq, ↓reduceIte]
        refine ih y (x % y) _ _ (by omega) ?_ hyl (by omega) ?_
        · rw [← hg, Nat.gcd_comm x y, Nat.gcd_rec y x, Nat.gcd_comm]
        · exact ⟨rfl, rfl, rfl⟩
  rw [callL_go (show AP 45 = some c_b_Gcd from rfl) rfl]
  simp (maxSteps := 1000000) only [go_sem, b_b_Gcd]
  exact key b a b _ _ (Nat.le_refl _) rfl ha hb ⟨rfl, rfl, rfl⟩

theorem b_Lowest_n {a b : Nat} (hs : Ok s) (ha : (a : Int) < 9223372036854775808) (hb : (b : Int) < 9223372036854775808) (hb0 : 0 < b) : callL AP (.fn 32) [I (a : Int), I (b : Int)] s = some (.agg [I (shareF a b).1, I (shareF a b).2], s) := by
  have hgc : ∀ r, callL AP (.fn 45) [I (a : Int), I (b : Int)] (s.push r) = some (I ((Nat.gcd a b : Nat) : Int), s.push r) := fun r => b_Gcd_n ha hb
  have hgp : 0 < Nat.gcd a b := Nat.gcd_pos_of_pos_right _ hb0
  have hd : decide ((b : Int) < 0) = false := decide_eq_false (by omega)
  have q1 := ar_quo_n (a := a) hgp ha
  have q2 := ar_quo_n (a := b) hgp hb
  rw [shareF, if_neg (by omega)]
  generalize Nat.gcd a b = g at *
  rw [callL_go (show AP 32 = some c_b_Lowest from rfl) rfl]
  simp (maxSteps := 1000000) only [go_sem, b_b_Lowest, hs, hgc, hd, q1, q2, Nat.reduceEqDiff, reduceCtorEq, ↓reduceIte]

theorem s_LoadOf {l : List P} {o : Own} {e : Nat} {a : Int} (hs : Ok s) (hw : w.Ok) (hf : w.Few) (hl : PlOk l) (he : l = [] ∨ e = 3) (hin : (planE w l).2 = 0 → ∀ p ∈ l, PIn w p ∧ endP w p ≤ 200) :
    callL AP (.fn 10) [w.v, .slice o e (l.map rowP), I a] s = some (.tuple [.agg [I (if antsO w l a = 0 then (shareF (occN w a l).toNat (openN w a.toNat)).1 else 0), I (if antsO w l a = 0 then (shareF (occN w a l).toNat (openN w a.toNat)).2 else 0)], I (antsO w l a)], s) := by
  have hoa : ∀ r, callL AP (.fn 22) [w.v, .slice o e (l.map rowP), I a] (s.push r) = some (.tuple [if (planE w l).2 = 0 then OW w else NP, I (antsO w l a)], s.push r) := fun r => s_openAntenna (hs.push r) hw hf hl he
  simp only [W.v, rowW, Sl.v] at hoa
  by_cases h0 : antsO w l a = 0
  · have hp0 : (planE w l).2 = 0 := by
      unfold antsO at h0
      by_cases h : (planE w l).2 = 0
      · exact h
      · rw [if_neg h] at h0; exact absurd h0 h
    have hwa : wi a 0 (w.as.l.length - 1) = true := by
      unfold antsO at h0
      rw [if_pos hp0] at h0
      cases hc : wi a 0 (w.as.l.length - 1) with
      | true => rfl
      | false => rw [hc] at h0; exact absurd h0 (by decide)
    have hwz : (weekE w).2.2 = 0 := by
      by_cases h : (weekE w).2.2 = 0
      · exact h
      · unfold planE at hp0; rw [if_neg h] at hp0; exact absurd hp0 h
    have hwk : Wk w := ⟨hw, hf, weekE_ok hwz⟩
    have hin := hin hp0
    have hn2 := hwk.v.n2
    obtain ⟨ha0, ha1⟩ := wi_iff.1 hwa
    rw [if_pos hp0, h0] at hoa
    have hoc : ∀ r, callL AP (.fn 23) [OW w, .slice o e (l.map rowP), I a] (s.push r) = some (.tuple [I (occN w a l), .agg (gu fun t => takB w l a t)], s.push r) := fun r => w_occupied (hs.push r) hwk hl.len hin he
    have hos : ∀ r, callL AP (.fn 27) [OW w, I a] (s.push r) = some (I ((openN w a.toNat : Nat) : Int), s.push r) := fun r => w_openSlots hwk ha0 (by omega)
    obtain ⟨b1, b2⟩ := occN_bd hwk (a := a) (l := l) fun p hp => (hin p hp).1
    have hlen := hl.len
    have hop : openN w a.toNat ≤ w.slots.toNat := countP_le
    have hsh : ∀ r, callL AP (.fn 26) [I (occN w a l), I ((openN w a.toNat : Nat) : Int)] (s.push r) = some (.agg [I (shareF (occN w a l).toNat (openN w a.toNat)).1, I (shareF (occN w a l).toNat (openN w a.toNat)).2], s.push r) := fun r => by
      have := s_share (a := (occN w a l).toNat) (b := openN w a.toNat) (hs.push r) (by omega) (by omega)
      rwa [show (((occN w a l).toNat : Nat) : Int) = occN w a l by omega] at this
    simp only [h0, if_true]
    generalize shareF (occN w a l).toNat (openN w a.toNat) = q at *
    generalize hF : (fun t : Nat => takB w l a (t : Int)) = F at *
    rw [callL_go (show AP 10 = some c_s_LoadOf from rfl) rfl]
    simp only [OW] at hoa hoc hos
    simp (maxSteps := 1000000) only [go_sem, b_s_LoadOf, hs, hoa, hoc, hos, hsh, zeros_gu, alloc_gu, fitN_gu, overN_gu, ne_eq, not_true, Nat.reduceEqDiff, Nat.reduceAdd, ↓reduceIte]
  · simp only [h0, if_false]
    rw [callL_go (show AP 10 = some c_s_LoadOf from rfl) rfl]
    simp (maxSteps := 1000000) only [go_sem, b_s_LoadOf, hs, hoa, h0, ne_eq, not_false_iff, Nat.reduceEqDiff, Nat.reduceAdd, ↓reduceIte]

theorem r_LoadOf {l : List P} {o : Own} {e : Nat} {i : Nat} (hs : Ok s) (hw : Wk w) (hl : l.length ≤ 14) (hin : ∀ p ∈ l, PIn w p) (he : l = [] ∨ e = 3) (hi : i < w.as.l.length) :
    callL AP (.fn 15) [w.v, .slice o e (l.map rowP), I i] s = some (.agg [I (shareF (takN w l i) (openN w i)).1, I (shareF (takN w l i) (openN w i)).2], s) := by
  have hn1 := hw.v.n1
  have hn2 := hw.v.n2
  obtain ⟨n, hn⟩ : ∃ n : Nat, w.slots = n := ⟨w.slots.toNat, by omega⟩
  obtain ⟨x, hx⟩ := get_some hi
  have hxm := List.mem_of_getElem? hx
  have hix0 := Sl.ix (f := rowA) hw.ok.as hx
  have hcl : ∀ (t : Nat) r, callL AP (.fn 30) [.agg (rowA x), I (t : Int)] (s.push r) = some (B (clq w.as.l i t), s.push r) := fun t r => by
    rw [← clq_closed hx]
    exact r_closed (hs.push r) (hw.ok.cl x hxm).1 (by have := hw.few.cl x hxm; omega)
  have htk : ∀ (t : Nat) r, callL AP (.fn 31) [w.v, .slice o e (l.map rowP), I (i : Int), I (t : Int)] (s.push r) = some (B (takB w l i t), s.push r) := fun t r => r_taken (hs.push r) hw hl hin he
  unfold takN openN
  rw [hn, Int.toNat_natCast]
  have key : ∀ (k : Nat) ρ m, k ≤ n → (ρ 1 = .slice o e (l.map rowP) ∧ ρ 2 = I i ∧ ρ 3 = .ptr s.acts.length 0 0 ∧ ρ 6 = .ptr s.acts.length 1 0 ∧ ρ 7 = I (((List.range k).countP fun t : Nat => takB w l i (t : Int) : Nat) : Int) ∧ ρ 8 = I (((List.range k).countP fun t => !clq w.as.l i t : Nat) : Int) ∧ ρ 9 = I k ∧ m = s.push ⟨[rowW w, [I 0, I 0]], []⟩) →
      go AP f_r_LoadOf (.c (.loop b_r_LoadOf_l0) :: k_r_LoadOf_0) ⟨ρ, m⟩ = some (.agg [I (shareF ((List.range n).countP fun t : Nat => takB w l i (t : Int)) ((List.range n).countP fun t => !clq w.as.l i t)).1, I (shareF ((List.range n).countP fun t : Nat => takB w l i (t : Int)) ((List.range n).countP fun t => !clq w.as.l i t)).2], s) := by
    refine loop_up n _ _ ?_ ?_
    · rintro k ρ m hk ⟨g1, g2, g3, g6, g7, g8, g9, rfl⟩ ih
      have hd0 : decide ((k : Int) < w.slots) = true := by rw [hn]; exact lt_dec hk
      have hwk1 := wrap_succ hk (show (n : Int) < _ by omega)
      have hcl := hcl k
      have htk := htk k
      have c1 : (List.range k).countP (fun t : Nat => takB w l i (t : Int)) ≤ k := countP_le
      have c2 : (List.range k).countP (fun t => !clq w.as.l i t) ≤ k := countP_le
      have s1 := countP_succ (k := k) (f := fun t : Nat => takB w l i (t : Int))
      have s2 := countP_succ (k := k) (f := fun t => !clq w.as.l i t)
      have w1 : IntKind.i64.wrap ((((List.range k).countP fun t : Nat => takB w l i (t : Int) : Nat) : Int) + 1) = (((List.range k).countP (fun t : Nat => takB w l i (t : Int)) + 1 : Nat) : Int) := by rw [wrap_id (by omega) (by omega)]; omega
      have w2 : IntKind.i64.wrap ((((List.range k).countP fun t => !clq w.as.l i t : Nat) : Int) + 1) = (((List.range k).countP (fun t => !clq w.as.l i t) + 1 : Nat) : Int) := by rw [wrap_id (by omega) (by omega)]; omega
      simp only [rowA, W.v, rowW, Sl.v] at hix0 hcl htk
      cases hc : clq w.as.l i k with
      | true =>
        rw [hc] at hcl
        simp only [hc] at s2
        cases ht : takB w l (i : Int) (k : Int) with
        | true =>
          rw [ht] at htk
          simp only [ht] at s1
          simp (maxSteps := 1000000) only [go_sem, b_r_LoadOf_l0, g1, g2, g3, g7, g9, hd0, hix0, hcl, htk, hwk1, w1, Bool.not_true, Nat.reduceEqDiff, Nat.reduceAdd, ↓reduceIte]
          refine ih _ _ ?_
          exact ⟨g1, g2, g3, g6, by rw [s1]; rfl, by rw [s2]; exact g8, rfl, rfl⟩
        | false =>
          rw [ht] at htk
          simp only [ht] at s1
          simp (maxSteps := 1000000) only [go_sem, b_r_LoadOf_l0, g1, g2, g3, g9, hd0, hix0, hcl, htk, hwk1, Bool.not_true, Nat.reduceEqDiff, Nat.reduceAdd, ↓reduceIte]
          refine ih _ _ ?_
          exact ⟨g1, g2, g3, g6, by rw [s1]; exact g7, by rw [s2]; exact g8, rfl, rfl⟩
      | false =>
        rw [hc] at hcl
        simp only [hc] at s2
        cases ht : takB w l (i : Int) (k : Int) with
        | true =>
          rw [ht] at htk
          simp only [ht] at s1
          simp (maxSteps := 1000000) only [go_sem, b_r_LoadOf_l0, g1, g2, g3, g7, g8, g9, hd0, hix0, hcl, htk, hwk1, w1, w2, Bool.not_false, Nat.reduceEqDiff, Nat.reduceAdd, ↓reduceIte]
          refine ih _ _ ?_
          exact ⟨g1, g2, g3, g6, by rw [s1]; rfl, by rw [s2]; rfl, rfl, rfl⟩
        | false =>
          rw [ht] at htk
          simp only [ht] at s1
          simp (maxSteps := 1000000) only [go_sem, b_r_LoadOf_l0, g1, g2, g3, g8, g9, hd0, hix0, hcl, htk, hwk1, w2, Bool.not_false, Nat.reduceEqDiff, Nat.reduceAdd, ↓reduceIte]
          refine ih _ _ ?_
          exact ⟨g1, g2, g3, g6, by rw [s1]; exact g7, by rw [s2]; rfl, rfl, rfl⟩
    · rintro ρ m ⟨g1, g2, g3, g6, g7, g8, g9, rfl⟩
      have hd0 : decide ((n : Int) < w.slots) = false := by rw [hn]; exact ge_dec n
      have c1 : (List.range n).countP (fun t : Nat => takB w l i (t : Int)) ≤ n := countP_le
      have c2 : (List.range n).countP (fun t => !clq w.as.l i t) ≤ n := countP_le
      generalize (List.range n).countP (fun t : Nat => takB w l i (t : Int)) = x1 at *
      generalize (List.range n).countP (fun t => !clq w.as.l i t) = x2 at *
      have hbw : ∀ r, callL AP (.fn 21) [I 0] (s.push r) = some (.agg [I 0, I 1], s.push r) := fun r => b_Whole (hs.push r)
      by_cases hz : x2 = 0
      · subst hz
        simp (maxSteps := 1000000) only [go_sem, b_r_LoadOf_l0, b_r_LoadOf_r0, g3, g6, g8, g9, hs, hd0, decide_true, hbw, Nat.reduceEqDiff, Nat.reduceAdd, Int.cast_ofNat_Int, ↓reduceIte]
        rfl
      · have hd1 : decide ((x2 : Int) = 0) = false := decide_eq_false (by omega)
        have hlo : ∀ r, callL AP (.fn 32) [I (x1 : Int), I (x2 : Int)] (s.push r) = some (.agg [I (shareF x1 x2).1, I (shareF x1 x2).2], s.push r) := fun r => b_Lowest_n (hs.push r) (by omega) (by omega) (by omega)
        simp (maxSteps := 1000000) only [go_sem, b_r_LoadOf_l0, b_r_LoadOf_r0, g3, g6, g7, g8, g9, hs, hd0, hd1, hlo, Nat.reduceEqDiff, Nat.reduceAdd, ↓reduceIte]
  rw [callL_go (show AP 15 = some c_r_LoadOf from rfl) rfl]
  simp (maxSteps := 1000000) only [go_sem, b_r_LoadOf, Nat.reduceAdd]
  refine key 0 _ _ (Nat.zero_le _) ?_
  exact ⟨rfl, rfl, rfl, rfl, rfl, rfl, rfl, rfl⟩
end
end Go.Ax.Sx.Sc

namespace Go.Ax.Sx.Sc
open Go.Ax
set_option linter.unusedSimpArgs false
set_option linter.unusedVariables false
set_option maxRecDepth 100000

theorem count_or {n : Nat} {f g h : Nat → Bool} (hh : ∀ t, t < n → h t = (f t || g t)) (hd : ∀ t, t < n → f t = true → g t = false) : (List.range n).countP h = (List.range n).countP f + (List.range n).countP g := by
  induction n with
  | zero => rfl
  | succ n ih =>
    rw [countP_succ, countP_succ, countP_succ, ih (fun t ht => hh t (by omega)) (fun t ht => hd t (by omega)), hh n (by omega)]
    have := hd n (by omega)
    cases hf : f n <;> cases hg : g n <;> simp [hf, hg] at this ⊢ <;> omega
theorem count_wi {n a b : Nat} (hab : a ≤ b) : (List.range n).countP (fun t => decide (a ≤ t) && decide (t < b)) = min n b - min n a := by
  induction n with
  | zero => simp
  | succ n ih =>
    rw [countP_succ, ih]
    by_cases h1 : a ≤ n
    · by_cases h2 : n < b
      · rw [decide_eq_true h1, decide_eq_true h2]; simp; omega
      · rw [decide_eq_true h1, decide_eq_false h2]; simp; omega
    · rw [decide_eq_false h1]; simp; omega
theorem count_not {n : Nat} {f : Nat → Bool} : (List.range n).countP f + (List.range n).countP (fun t => !f t) = n := by
  induction n with
  | zero => rfl
  | succ n ih =>
    rw [countP_succ, countP_succ]
    cases f n <;> simp <;> omega

/-- the slots of ranges -/
def sumR : List (Int × Int) → Int
  | [] => 0
  | p :: r => (p.2 - p.1 + 1) + sumR r
theorem sumR_app : ∀ {a b : List (Int × Int)}, sumR (a ++ b) = sumR a + sumR b
  | [], b => by simp [sumR]
  | p :: a, b => by simp only [List.cons_append, sumR, sumR_app]; omega
theorem sumR_step {busy : Nat → Bool} {out : List (Int × Int)} {t : Nat} : sumR (stepR busy out t) = sumR out + if busy t = true then 0 else 1 := by
  unfold stepR
  split
  · simp
  · cases h : out.getLast? with
    | none =>
      have : out = [] := List.getLast?_eq_none_iff.1 h
      subst this
      simp [sumR]
    | some p =>
      obtain ⟨init, rfl⟩ : ∃ init, out = init ++ [p] := by
        obtain ⟨ys, e⟩ := List.getLast?_eq_some_iff.1 h
        exact ⟨ys, e⟩
      simp only
      split
      · rename_i hp
        rw [List.dropLast_concat, sumR_app, sumR_app]
        simp only [sumR]; omega
      · rw [sumR_app (b := [((t : Int), (t : Int))])]
        simp only [sumR]; omega
theorem sumR_frs {busy : Nat → Bool} : ∀ {n : Nat}, sumR (frsF busy n) = ((List.range n).countP fun t => !busy t : Nat)
  | 0 => rfl
  | n + 1 => by
    simp only [frsF]
    rw [sumR_step, sumR_frs, countP_succ]
    cases busy n <;> simp
theorem frs_in {busy : Nat → Bool} : ∀ {n : Nat}, ∀ p ∈ frsF busy n, 0 ≤ p.1 ∧ p.1 ≤ p.2 ∧ p.2 < n
  | 0 => fun p h => absurd h (by simp [frsF])
  | n + 1 => fun p h => by
    have ih := frs_in (busy := busy) (n := n)
    simp only [frsF, stepR] at h
    split at h
    · have := ih p h; omega
    · cases hl : (frsF busy n).getLast? with
      | none =>
        rw [hl] at h
        simp only [List.mem_singleton] at h
        subst h; simp; omega
      | some q =>
        have hqm := List.mem_of_getLast? hl
        have hq := ih q hqm
        rw [hl] at h
        simp only at h
        split at h
        · rw [List.mem_append, List.mem_singleton] at h
          rcases h with h | rfl
          · have := ih p ((List.dropLast_sublist _).subset h); omega
          · simp only; omega
        · rw [List.mem_append, List.mem_singleton] at h
          rcases h with h | rfl
          · have := ih p h; omega
          · simp only; omega

section
variable {w : W}

theorem hasA_mem {p : P} {a : Int} (h : hasA p a = true) : a ∈ p.an.l := by
  unfold hasA at h
  obtain ⟨m, hm, he⟩ := List.any_eq_true.1 h
  rwa [← of_decide_eq_true he]

/-- Passes that do not conflict are apart on an antenna. -/
theorem apart (hw : Wk w) {p q : P} (hp : PIn w p) (hq : PIn w q) {a : Int} (h : conf w q p = false) (hpa : hasA p a = true) (hqa : hasA q a = true) : endP w p ≤ q.start ∨ endP w q ≤ p.start := by
  have hpm := hasA_mem hpa
  have hqm := hasA_mem hqa
  have key : ∀ (x y : P), PIn w x → a ∈ x.an.l → a ∈ y.an.l → clash w x y = false → endP w x ≤ y.start := fun x y hx hxm hym hc => by
    unfold clash at hc
    rw [List.any_eq_false] at hc
    have h1 := hc a hxm
    have h2 : (y.an.l.any fun m => decide (a = m)) = true := List.any_eq_true.2 ⟨a, hym, by simp⟩
    rw [h2, Bool.true_and] at h1
    have h3 := hw.stp (hx.an a hxm).1 (hx.an a hxm).2
    have h4 : ¬ y.start - endP w x < if (w.rq x.req).mis = (w.rq y.req).mis then 0 else w.stp a := by simpa using h1
    split at h4 <;> omega
  unfold conf at h
  split at h
  · cases h
  · split at h
    · exact .inl (key p q hp hpm hqm h)
    · exact .inr (key q p hq hqm hpm h)

/-- What is known of a pass of a valid plan. -/
theorem pass_facts (hw : Wk w) {l : List P} (hl : PlOk l) (h : (chkE w l).2 = 0) {j : Nat} {p : P} (hj : l[j]? = some p) : PIn w p ∧ 0 ≤ p.start ∧ p.start < endP w p ∧ endP w p ≤ w.slots ∧ confs w p (l.take j) = false ∧ ∀ a, hasA p a = true → ∀ t : Nat, p.start ≤ t → (t : Int) < endP w p → clq w.as.l a.toNat t = false := by
  have hpm := List.mem_of_getElem? hj
  have h1 := hl.ok p hpm
  obtain ⟨hpi, _, hc, hlo, hhi, _, _, hop⟩ := passE_in hw h1.1 (by omega) (chk_in hw hl h j p hj)
  have hq := hw.rq hpi.r0 hpi.r1
  have q0 := hq.lo0
  have q1 := hq.hin
  have q2 := hq.len1
  have he : endP w p = p.start + (w.rq p.req).len := rfl
  refine ⟨hpi, hpi.s0, by omega, by omega, hc, fun a ha t ht1 ht2 => ?_⟩
  have hm := hasA_mem ha
  rw [List.any_eq_false] at hop
  have := hop a hm
  have hin := hpi.an a hm
  obtain ⟨x, hx⟩ := get_some (l := w.as.l) (k := a.toNat) (by omega)
  unfold openB at this
  rw [hx] at this
  simp only [Bool.not_not] at this
  have this : ¬ ((List.range (w.rq p.req).len.toNat).any fun q => isClosed x (p.start + q)) = true := by simpa using this
  rw [List.any_eq_true] at this
  cases hc : clq w.as.l a.toNat t with
  | false => rfl
  | true =>
    exfalso
    refine this ⟨t - p.start.toNat, List.mem_range.2 (by omega), ?_⟩
    have h0 := hpi.s0
    rw [show p.start + ((t - p.start.toNat : Nat) : Int) = (t : Int) by omega, clq_closed hx]; exact hc

theorem takB_app {l r : List P} {a t : Int} : takB w (l ++ r) a t = (takB w l a t || takB w r a t) := by unfold takB; rw [List.any_append]

/-- Each slot is occupied by one pass. -/
theorem occ_eq (hw : Wk w) {l : List P} (hl : PlOk l) (h : (chkE w l).2 = 0) {a : Int} : ∀ (k : Nat), k ≤ l.length → occN w a (l.take k) = ((List.range w.slots.toNat).countP fun t : Nat => takB w (l.take k) a (t : Int) : Nat)
  | 0, _ => by
    have : ((List.range w.slots.toNat).countP fun t : Nat => takB w (l.take 0) a (t : Int)) = 0 := by
      rw [List.countP_eq_zero]; intro t _; simp [takB]
    rw [this]; simp [occN]
  | k + 1, hk => by
    have ih := occ_eq hw hl h (a := a) k (by omega)
    obtain ⟨p, hp⟩ := get_some (show k < l.length by omega)
    obtain ⟨hpi, h0, h1, h2, hc, _⟩ := pass_facts hw hl h hp
    rw [take_get hp, occN_app, ih]
    cases ha : hasA p a with
    | false =>
      have : ((List.range w.slots.toNat).countP fun t : Nat => takB w (l.take k ++ [p]) a (t : Int)) = (List.range w.slots.toNat).countP fun t : Nat => takB w (l.take k) a (t : Int) := by
        congr 1; funext t; rw [takB_app]; simp [takB, ha]
      rw [this]; simp [occN, ha]
    | true =>
      have hor := count_or (n := w.slots.toNat) (f := fun t : Nat => takB w (l.take k) a (t : Int)) (g := fun t => decide (p.start.toNat ≤ t) && decide (t < (endP w p).toNat)) (h := fun t : Nat => takB w (l.take k ++ [p]) a (t : Int)) (fun t ht => by
        rw [takB_app]
        congr 1
        simp only [takB, List.any_cons, List.any_nil, Bool.or_false, ha, Bool.true_and, wi]
        congr 1
        · by_cases e : p.start ≤ (t : Int)
          · rw [decide_eq_true e, decide_eq_true (by omega)]
          · rw [decide_eq_false e, decide_eq_false (by omega)]
        · by_cases e : (t : Int) ≤ endP w p - 1
          · rw [decide_eq_true e, decide_eq_true (by omega)]
          · rw [decide_eq_false e, decide_eq_false (by omega)]) (fun t ht hf => by
        obtain ⟨q, hq, hqt⟩ := List.any_eq_true.1 hf
        rw [Bool.and_eq_true, wi_iff] at hqt
        obtain ⟨j, hj⟩ := List.getElem?_of_mem hq
        have hqm := List.mem_of_mem_take hq
        obtain ⟨j2, hj2⟩ := List.getElem?_of_mem hqm
        obtain ⟨hqi, _⟩ := pass_facts hw hl h hj2
        have hcq : conf w q p = false := by
          have hc' : (l.take k).any (fun o => conf w o p) = false := hc
          rw [List.any_eq_false] at hc'
          simpa using hc' q hq
        rcases apart hw hpi hqi hcq ha hqt.1 with e | e
        · rw [decide_eq_false (show ¬ t < (endP w p).toNat by omega), Bool.and_false]
        · rw [decide_eq_false (show ¬ p.start.toNat ≤ t by omega), Bool.false_and])
      rw [hor, count_wi (by omega)]
      simp only [occN, ha, if_true]
      have : endP w p = p.start + (w.rq p.req).len := rfl
      omega

theorem occ_tak (hw : Wk w) {l : List P} (hl : PlOk l) (h : (chkE w l).2 = 0) {a : Int} : occN w a l = (takN w l a : Nat) := by
  have := occ_eq hw hl h (a := a) l.length (Nat.le_refl _)
  rw [List.take_length] at this
  exact this

/-- Free, occupied and closed slots are all slots. -/
theorem all_slots (hw : Wk w) {l : List P} (hl : PlOk l) (h : (chkE w l).2 = 0) {i : Nat} :
    sumR (frsF (busyB w l (i : Int)) w.slots.toNat) + occN w (i : Int) l + ((List.range w.slots.toNat).countP fun t => clq w.as.l i t : Nat) = w.slots := by
  have hn1 := hw.v.n1
  rw [sumR_frs, occ_tak hw hl h]
  have h1 := count_not (n := w.slots.toNat) (f := busyB w l (i : Int))
  have h2 := count_or (n := w.slots.toNat) (f := fun t : Nat => takB w l (i : Int) (t : Int)) (g := fun t => clq w.as.l i t) (h := busyB w l (i : Int)) (fun t _ => by unfold busyB; rw [Int.toNat_natCast]) (fun t ht hf => by
    obtain ⟨q, hq, hqt⟩ := List.any_eq_true.1 hf
    rw [Bool.and_eq_true, wi_iff] at hqt
    obtain ⟨j, hj⟩ := List.getElem?_of_mem hq
    obtain ⟨_, _, _, _, _, hcl⟩ := pass_facts hw hl h hj
    have := hcl (i : Int) hqt.1 t hqt.2.1 (by omega)
    rwa [Int.toNat_natCast] at this)
  unfold takN
  omega

/-! ### Words that do not hang on owners -/
theorem hasA_cP {p : P} {a : Int} : hasA (cP p) a = hasA p a := rfl
theorem takB_c {l : List P} {a t : Int} (hl : ∀ x ∈ l, 0 ≤ x.req ∧ x.req < w.rs.l.length) : takB (cW w) (l.map cP) a t = takB w l a t := by
  induction l with
  | nil => rfl
  | cons x r ih =>
    have hx := hl x (by simp)
    have h := ih fun y hy => hl y (List.mem_cons_of_mem _ hy)
    unfold takB at h ⊢
    rw [List.map_cons, List.any_cons, List.any_cons, h, endP_c hx.1 hx.2]; rfl
theorem clq_c {i t : Nat} : clq (cW w).as.l i t = clq w.as.l i t := by
  unfold clq
  rw [cW_as, List.getElem?_map]
  cases w.as.l[i]? <;> rfl
theorem busyB_c {l : List P} {a : Int} (hl : ∀ x ∈ l, 0 ≤ x.req ∧ x.req < w.rs.l.length) : busyB (cW w) (l.map cP) a = busyB w l a := by
  funext t; unfold busyB; rw [takB_c hl, clq_c]
theorem occN_c {a : Int} : ∀ {l : List P}, (∀ x ∈ l, 0 ≤ x.req ∧ x.req < w.rs.l.length) → occN (cW w) a (l.map cP) = occN w a l
  | [], _ => rfl
  | x :: r, h => by
    have hx := h x (by simp)
    simp only [List.map_cons, occN]
    rw [occN_c fun y hy => h y (List.mem_cons_of_mem _ hy), hasA_cP, show (cP x).req = x.req from rfl, cW_rq hx.1 hx.2]; rfl
theorem openN_c {i : Nat} : openN (cW w) i = openN w i := by
  unfold openN
  simp only [clq_c]; rfl
theorem antsO_c {l : List P} {a : Int} : antsO (cW w) (l.map cP) a = antsO w l a := by
  unfold antsO
  rw [planE_c, cW_as, List.length_map]
end
end Go.Ax.Sx.Sc

namespace Go.Ax.Sx.Sc
open Go.Ax
set_option linter.unusedSimpArgs false
set_option linter.unusedVariables false
set_option maxRecDepth 100000

section
variable {s : Sig} {w : W}

theorem sumR_bd {n : Nat} : ∀ {l : List (Int × Int)}, (∀ p ∈ l, 0 ≤ p.1 ∧ p.1 ≤ p.2 ∧ p.2 < n) → 0 ≤ sumR l ∧ sumR l ≤ n * l.length
  | [], _ => by simp [sumR]
  | p :: r, h => by
    have ih := sumR_bd (n := n) (l := r) fun q hq => h q (List.mem_cons_of_mem _ hq)
    have hp := h p (by simp)
    simp only [sumR, List.length_cons]
    rw [show ((n : Int) * ((r.length + 1 : Nat) : Int)) = n * r.length + n by rw [Int.natCast_add, Int.mul_add]; omega]
    omega

theorem l_ScheduleAntennas {l : List P} {o : Own} {e : Nat} {a : Int} (hs : Ok s) (hw : w.Ok) (hb : w.Big) (hl : PBig l) (he : l = [] ∨ e = 3) (hi : inI a) : callL AP (.fn 3) [w.v, .slice o e (l.map rowP), I a] s = some (B true, s) := by
  have haw : ∀ r, callL AP (.fn 4) [] (s.push r) = some (B true, s.push r) := fun r => l_awake (hs.push r)
  have hfe : ∀ r, callL AP (.fn 5) [w.v] (s.push r) = some (B (fewB w), s.push r) := fun r => l_Few (hs.push r) hw hb
  have hsh : ∀ m : Sig, callL AP (.fn 6) [.slice o e (l.map rowP)] m = some (B (shortB l), m) := fun m => l_short hl he
  cases hf : fewB w with
  | false =>
    rw [callL_go (show AP 3 = some c_l_ScheduleAntennas from rfl) rfl]
    simp only [W.v, rowW, Sl.v] at hfe
    simp (maxSteps := 1000000) only [go_sem, b_l_ScheduleAntennas, haw, hfe, hf, Nat.reduceEqDiff, Nat.reduceAdd, ↓reduceIte]
  | true =>
  cases hf2 : shortB l with
  | false =>
    rw [callL_go (show AP 3 = some c_l_ScheduleAntennas from rfl) rfl]
    simp only [W.v, rowW, Sl.v] at hfe
    simp (maxSteps := 1000000) only [go_sem, b_l_ScheduleAntennas, haw, hfe, hf, hsh, hf2, Nat.reduceEqDiff, Nat.reduceAdd, ↓reduceIte]
  | true =>
    have hF := fewB_iff hf
    have hP := shortB_ok hl hf2
    have hcp : ∀ r, callL AP (.fn 8) [w.v] (s.push r) = some ((cW w).v, s.push r) := fun r => r_CopyWeek (hs.push r) hw hF
    obtain ⟨x1, g1, tk1, hc1, hA1, _⟩ := r_Copy (o := o) (Q := s) (tk := []) hs hP he
    obtain ⟨x2, g2, tk2, hc2, hA2, _⟩ := r_Copy (o := o) (Q := s) (tk := tk1) hs hP he
    obtain ⟨o1, e1, rfl, he1⟩ := acc_val hA1
    obtain ⟨o2, e2, rfl, he2⟩ := acc_val hA2
    have he1' : l.map cP = [] ∨ e1 = 3 := by rcases he1 with h | h; exact .inl (by simpa using h); exact .inr h
    have he2' : l.map cP = [] ∨ e2 = 3 := by rcases he2 with h | h; exact .inl (by simpa using h); exact .inr h
    have hwz : (planE w l).2 = 0 → (weekE w).2.2 = 0 := fun h0 => by
      by_cases h : (weekE w).2.2 = 0
      · exact h
      · unfold planE at h0; rw [if_neg h] at h0; exact absurd h0 h
    have hfacts : (planE w l).2 = 0 → ∃ hwk : Wk w, (chkE w l).2 = 0 := fun h0 => ⟨⟨hw, hF, weekE_ok (hwz h0)⟩, by unfold planE at h0; rwa [if_pos (hwz h0)] at h0⟩
    have hinc : (planE (cW w) (l.map cP)).2 = 0 → ∀ p ∈ l.map cP, PIn (cW w) p ∧ endP (cW w) p ≤ 200 := fun h0 p hp => by
      rw [planE_c] at h0
      obtain ⟨hwk, hck⟩ := hfacts h0
      obtain ⟨q, hq, rfl⟩ := List.mem_map.1 hp
      obtain ⟨j, hj⟩ := List.getElem?_of_mem hq
      obtain ⟨hpi, _, _, h2, _⟩ := pass_facts hwk hP hck hj
      have hn2 := hwk.v.n2
      refine ⟨⟨hpi.r0, by rw [cW_len]; exact hpi.r1, hpi.s0, hpi.s1, fun a ha => by rw [cW_as, List.length_map]; exact hpi.an a ha, cpI_ok, hpi.len⟩, by rw [endP_c hpi.r0 hpi.r1]; omega⟩
    have hfo : ∀ r, callL AP (.fn 7) [(cW w).v, .slice o1 e1 ((l.map cP).map rowP), I a] (s.push r) = some (.tuple [accV 2 ((if antsO w l a = 0 then frsF (busyB (cW w) (l.map cP) a) w.slots.toNat else []).map rowG), I (antsO w l a)], s.push r) := fun r => by
      rw [s_FreeOf (hs.push r) cW_Ok (cW_Few hF) (cP_ok hP) he1' hinc, antsO_c, cW_slots]
    have hlo : ∀ r, callL AP (.fn 10) [(cW w).v, .slice o2 e2 ((l.map cP).map rowP), I a] (s.push r) = some (.tuple [.agg [I (if antsO w l a = 0 then (shareF (occN (cW w) a (l.map cP)).toNat (openN (cW w) a.toNat)).1 else 0), I (if antsO w l a = 0 then (shareF (occN (cW w) a (l.map cP)).toNat (openN (cW w) a.toNat)).2 else 0)], I (antsO w l a)], s.push r) := fun r => by
      rw [s_LoadOf (hs.push r) cW_Ok (cW_Few hF) (cP_ok hP) he2' hinc, antsO_c]
    have hpe : ∀ r, callL AP (.fn 11) [w.v, .slice o e (l.map rowP)] (s.push r) = some (I (planE w l).2, s.push r) := fun r => r_PlanErr (hs.push r) hw hF hP he
    have hwm1 : IntKind.i64.wrap ((w.as.l.length : Int) - 1) = (w.as.l.length : Int) - 1 := wrap_id (by omega) (by have := hF.as; omega)
    have hbw : ∀ m : Sig, callL AP (.fn 12) [I a, I 0, I ((w.as.l.length : Int) - 1)] m = some (B (wi a 0 (w.as.l.length - 1)), m) := fun m => b_Within
    have hq0 : eqOp (.agg [.int, .int]) (.agg [I 0, I 0]) (.agg [I 0, I 0]) = some true := rfl
    by_cases h0 : (planE w l).2 = 0
    · have hwe := hwz h0
      obtain ⟨hwk, hck⟩ := hfacts h0
      have hreq : ∀ x ∈ l, 0 ≤ x.req ∧ x.req < w.rs.l.length := fun x hx => by
        have := chk_pin hwk hP hck x hx
        exact ⟨this.r0, this.r1⟩
      have hpin : ∀ x ∈ l, PIn w x := chk_pin hwk hP hck
      cases h1 : wi a 0 (w.as.l.length - 1) with
      | false =>
        have hao : antsO w l a = 6 := by unfold antsO; rw [if_pos h0, h1]; rfl
        rw [hao, if_neg (by decide)] at hfo
        rw [hao, if_neg (by decide), if_neg (by decide)] at hlo
        rw [h0] at hpe
        rw [h1] at hbw
        have hnil : accV 2 (([] : List (Int × Int)).map rowG) = .slice .nilS 0 [] := rfl
        rw [hnil] at hfo
        simp only [W.v, rowW, Sl.v] at hfe hcp hfo hlo hpe
        rw [callL_go (show AP 3 = some c_l_ScheduleAntennas from rfl) rfl]
        simp (maxSteps := 1000000) only [go_sem, b_l_ScheduleAntennas, hs, haw, hfe, hf, hsh, hf2, hcp, hc1, hc2, hfo, hlo, hpe, hwm1, hbw, hq0, decide_true, ne_eq, not_false_iff, Bool.not_false, Bool.not_true, Nat.reduceEqDiff, reduceCtorEq, Nat.reduceAdd, Int.reduceEq, Int.cast_ofNat_Int, ↓reduceIte]
      | true =>
        obtain ⟨ha0, ha1⟩ := wi_iff.1 h1
        obtain ⟨i, rfl⟩ : ∃ i : Nat, a = i := ⟨a.toNat, by omega⟩
        have hil : i < w.as.l.length := by omega
        have hao : antsO w l (i : Int) = 0 := by unfold antsO; rw [if_pos h0, h1]; rfl
        have hn1 := hwk.v.n1
        have hn2 := hwk.v.n2
        obtain ⟨n, hn⟩ : ∃ n : Nat, w.slots = n := ⟨w.slots.toNat, by omega⟩
        have hnn : w.slots.toNat = n := by omega
        rw [hao, if_pos rfl, busyB_c hreq, show accV 2 ((frsF (busyB w l (i : Int)) w.slots.toNat).map rowG) = (acS 2 (frsF (busyB w l (i : Int)) w.slots.toNat)).v rowG from acS_v] at hfo
        rw [hao, if_pos rfl, if_pos rfl, occN_c hreq, openN_c, occ_tak hwk hP hck, Int.toNat_natCast, Int.toNat_natCast] at hlo
        rw [h0] at hpe
        rw [h1] at hbw
        have hrf : ∀ r, callL AP (.fn 14) [w.v, .slice o e (l.map rowP), I (i : Int)] (s.push r) = some ((acS 2 (frsF (busyB w l (i : Int)) w.slots.toNat)).v rowG, s.push r) := fun r => by
          rw [r_FreeOf (hs.push r) hwk hP.len hpin he hil, ← acS_v]
        have hrl : ∀ m : Sig, Ok m → callL AP (.fn 15) [w.v, .slice o e (l.map rowP), I (i : Int)] m = some (.agg [I (shareF (takN w l (i : Int)) (openN w i)).1, I (shareF (takN w l (i : Int)) (openN w i)).2], m) := fun m hm => r_LoadOf hm hwk hP.len hpin he hil
        have hrl := fun r => hrl (roS (s.push r)) ok_roS
        have hall := all_slots hwk hP hck (i := i)
        have hri := frs_in (busy := busyB w l (i : Int)) (n := w.slots.toNat)
        have hrn := frsF_len (busy := busyB w l (i : Int)) (n := w.slots.toNat)
        generalize hFR : frsF (busyB w l (i : Int)) w.slots.toNat = FR at *
        have hrg : ∀ m : Sig, callL AP (.fn 13) [(acS 2 FR).v rowG, (acS 2 FR).v rowG] m = some (B true, m) := fun m => by
          have := b_Ranges (s := m) (a := FR) (o1 := (acS 2 FR).o) (e1 := (acS 2 FR).e) (o2 := (acS 2 FR).o) (e2 := (acS 2 FR).e) (by have := (acS_ok (e := 2) (l := FR)).1; rwa [acS_l] at this) (by have := (acS_ok (e := 2) (l := FR)).1; rwa [acS_l] at this) (by omega)
          refine Eq.trans ?_ this
          simp only [Sl.v, acS_l]
        have hee : (acS 2 FR).ok 2 := acS_ok
        generalize hXR : acS 2 FR = XR at *
        have hXl : XR.l = FR := by rw [← hXR, acS_l]
        generalize hQ : shareF (takN w l (i : Int)) (openN w i) = Q at *
        have hqq : eqOp (.agg [.int, .int]) (.agg [I Q.1, I Q.2]) (.agg [I Q.1, I Q.2]) = some true := by simp [eqOp, eqCells, eqPlain]
        obtain ⟨x, hx⟩ := get_some hil
        have hxm := List.mem_of_getElem? hx
        have hix0 := Sl.ix (f := rowA) hw.as hx
        obtain ⟨ca1, ca2⟩ := hw.cl x hxm
        have hcll := hF.cl x hxm
        obtain ⟨b1, b2⟩ := occN_bd hwk (a := (i : Int)) hpin
        have hlen := hP.len
        -- the closed slots
        have k3 : ∀ (k : Nat) ρ m, k ≤ n → (ρ 2 = I i ∧ ρ 3 = .ptr s.acts.length 0 0 ∧ ρ 12 = I (sumR FR) ∧ ρ 13 = I (occN w (i : Int) l) ∧ ρ 14 = I (((List.range k).countP fun t => clq w.as.l i t : Nat) : Int) ∧ ρ 17 = I k ∧ ∃ bx tk, m = s.push ⟨rowW w :: bx, tk⟩) →
            go AP f_l_ScheduleAntennas (.c (.loop b_l_ScheduleAntennas_l0) :: k_l_ScheduleAntennas_0) ⟨ρ, m⟩ = some (B true, s) := by
          refine loop_up n _ _ ?_ ?_
          · rintro k ρ m hk ⟨g2, g3, g12, g13, g14, g17, bx, tk, rfl⟩ ih
            have hd0 : decide ((k : Int) < w.slots) = true := by rw [hn]; exact lt_dec hk
            have hwk1 := wrap_succ hk (show (n : Int) < _ by omega)
            have cle : (List.range k).countP (fun t => clq w.as.l i t) ≤ k := countP_le
            have s1 := countP_succ (k := k) (f := fun t => clq w.as.l i t)
            have w1 : IntKind.i64.wrap ((((List.range k).countP fun t => clq w.as.l i t : Nat) : Int) + 1) = (((List.range k).countP (fun t => clq w.as.l i t) + 1 : Nat) : Int) := by rw [wrap_id (by omega) (by omega)]; omega
            have inner : ∀ (j : Nat) ρ m, j ≤ x.cl.l.length → (ρ 2 = I i ∧ ρ 3 = .ptr s.acts.length 0 0 ∧ ρ 12 = I (sumR FR) ∧ ρ 13 = I (occN w (i : Int) l) ∧ ρ 14 = I (((List.range k).countP fun t => clq w.as.l i t : Nat) : Int) ∧ ρ 17 = I k ∧ ρ 18 = B ((x.cl.l.take j).any fun p => wi (k : Int) p.1 p.2) ∧ ρ 19 = I j ∧ m = s.push ⟨rowW w :: bx, tk⟩) →
                go AP f_l_ScheduleAntennas (.c (.loop b_l_ScheduleAntennas_l1) :: k_l_ScheduleAntennas_1) ⟨ρ, m⟩ = some (B true, s) := by
              refine loop_up x.cl.l.length _ _ ?_ ?_
              · rintro j ρ m hj ⟨g2, g3, g12, g13, g14, g17, g18, g19, rfl⟩ ih2
                obtain ⟨q, hq⟩ := get_some hj
                have hcx := Sl.ix (f := rowG) ⟨ca1, ca2⟩ hq
                have hwj := wrap_succ hj (show (x.cl.l.length : Int) < _ by omega)
                have hnx : ((x.cl.l.take (j + 1)).any fun p => wi (k : Int) p.1 p.2) = (((x.cl.l.take j).any fun p => wi (k : Int) p.1 p.2) || wi (k : Int) q.1 q.2) := by rw [take_get hq, List.any_append]; simp
                have hbw2 : ∀ m : Sig, callL AP (.fn 12) [I (k : Int), I q.1, I q.2] m = some (B (wi (k : Int) q.1 q.2), m) := fun m => b_Within
                simp only [rowA, rowG, Sl.v] at hix0 hcx
                cases hd : (x.cl.l.take j).any fun p => wi (k : Int) p.1 p.2 with
                | true =>
                  rw [hd] at g18
                  simp (maxSteps := 1000000) only [go_sem, b_l_ScheduleAntennas_l1, g2, g3, g18, g19, hix0, lt_dec hj, hwj, Nat.reduceEqDiff, Nat.reduceAdd, ↓reduceIte]
                  refine ih2 _ _ ?_
                  exact ⟨g2, g3, g12, g13, g14, g17, by rw [hnx, hd]; rfl, rfl, rfl⟩
                | false =>
                  rw [hd] at g18
                  simp (maxSteps := 1000000) only [go_sem, b_l_ScheduleAntennas_l1, g2, g3, g17, g18, g19, hix0, lt_dec hj, hwj, hcx, hbw2, Nat.reduceEqDiff, Nat.reduceAdd, ↓reduceIte]
                  refine ih2 _ _ ?_
                  exact ⟨g2, g3, g12, g13, g14, g17, by rw [hnx, hd]; rfl, rfl, rfl⟩
              · rintro ρ m ⟨g2, g3, g12, g13, g14, g17, g18, g19, rfl⟩
                have hcl : ((x.cl.l.take x.cl.l.length).any fun p => wi (k : Int) p.1 p.2) = clq w.as.l i k := by
                  rw [List.take_length]; simp only [clq, hx]; rfl
                rw [hcl] at g18
                simp only [rowA, Sl.v] at hix0
                cases hc : clq w.as.l i k with
                | true =>
                  rw [hc] at g18
                  simp only [hc] at s1
                  simp (maxSteps := 1000000) only [go_sem, b_l_ScheduleAntennas_l1, b_l_ScheduleAntennas_r1, b_l_ScheduleAntennas_r2, g2, g3, g14, g17, g18, g19, hix0, ge_dec, w1, hwk1, Nat.reduceEqDiff, Nat.reduceAdd, ↓reduceIte]
                  refine ih _ _ ?_
                  exact ⟨g2, g3, g12, g13, by rw [s1]; rfl, rfl, bx, tk, rfl⟩
                | false =>
                  rw [hc] at g18
                  simp only [hc] at s1
                  simp (maxSteps := 1000000) only [go_sem, b_l_ScheduleAntennas_l1, b_l_ScheduleAntennas_r1, b_l_ScheduleAntennas_r2, g2, g3, g17, g18, g19, hix0, ge_dec, hwk1, Nat.reduceEqDiff, Nat.reduceAdd, ↓reduceIte]
                  refine ih _ _ ?_
                  exact ⟨g2, g3, g12, g13, by rw [s1]; exact g14, rfl, bx, tk, rfl⟩
            simp (maxSteps := 1000000) only [go_sem, b_l_ScheduleAntennas_l0, g3, g17, hd0, Nat.reduceEqDiff, Nat.reduceAdd, ↓reduceIte]
            refine inner 0 _ _ (Nat.zero_le _) ?_
            exact ⟨g2, g3, g12, g13, g14, g17, rfl, rfl, rfl⟩
          · rintro ρ m ⟨g2, g3, g12, g13, g14, g17, bx, tk, rfl⟩
            have hd0 : decide ((n : Int) < w.slots) = false := by rw [hn]; exact ge_dec n
            have cle : (List.range n).countP (fun t => clq w.as.l i t) ≤ n := countP_le
            rw [hnn] at hall
            obtain ⟨r1, r2⟩ := sumR_bd (n := n) (l := FR) (fun p hp => by have := hri p hp; omega)
            have r3 : (n : Int) * FR.length ≤ 200 * 200 := by
              have := Nat.mul_le_mul (show n ≤ 200 by omega) (show FR.length ≤ 200 by omega)
              have h2 : ((n * FR.length : Nat) : Int) ≤ 200 * 200 := by omega
              rwa [Int.natCast_mul] at h2
            have w1 : IntKind.i64.wrap (IntKind.i64.wrap (sumR FR + occN w (i : Int) l) + (((List.range n).countP fun t => clq w.as.l i t : Nat) : Int)) = w.slots := by
              rw [wrap_id (x := sumR FR + occN w (i : Int) l) (by omega) (by omega), wrap_id (by omega) (by omega)]; omega
            simp (maxSteps := 1000000) only [go_sem, b_l_ScheduleAntennas_l0, b_l_ScheduleAntennas_r0, g3, g12, g13, g14, g17, hd0, w1, decide_true, Nat.reduceEqDiff, Nat.reduceAdd, ↓reduceIte]
        -- the occupied slots
        have k2 : ∀ (k : Nat) ρ m, k ≤ l.length → (ρ 1 = .slice o e (l.map rowP) ∧ ρ 2 = I i ∧ ρ 3 = .ptr s.acts.length 0 0 ∧ ρ 12 = I (sumR FR) ∧ ρ 13 = I (occN w (i : Int) (l.take k)) ∧ ρ 14 = I 0 ∧ ρ 16 = I k ∧ ∃ bx tk, m = s.push ⟨rowW w :: bx, tk⟩) →
            go AP f_l_ScheduleAntennas (.c (.loop b_l_ScheduleAntennas_l2) :: k_l_ScheduleAntennas_2) ⟨ρ, m⟩ = some (B true, s) := by
          refine loop_up l.length _ _ ?_ ?_
          · rintro k ρ m hk ⟨g1, g2, g3, g12, g13, g14, g16, bx, tk, rfl⟩ ih
            obtain ⟨p, hp⟩ := get_some hk
            have hec : e = 3 := by rcases he with h | h; (rw [h] at hp; simp at hp); exact h
            subst hec
            have hpi := hpin p (List.mem_of_getElem? hp)
            have hr := ix_map (f := rowP) (o := o) (es := 3) hp
            have hq := Sl.ix (f := rowR) hw.rs (W.rq_get hpi.r0 hpi.r1)
            rw [show ((p.req.toNat : Nat) : Int) = p.req by have := hpi.r0; omega] at hq
            have hln := hwk.len hpi.r0 hpi.r1
            have hh : ∀ m : Sig, callL AP (.fn 16) [p.an.v rowI, I (i : Int)] m = some (B (hasA p (i : Int)), m) := fun m => b_Has hpi.ok.1 hpi.len
            have hwk1 := wrap_succ hk (show (l.length : Int) < _ by omega)
            obtain ⟨c1, c2⟩ := occN_bd hwk (a := (i : Int)) (l := l.take k) fun q hq => hpin q (List.mem_of_mem_take hq)
            have c3 : (l.take k).length ≤ 14 := by rw [List.length_take]; omega
            have hnx : occN w (i : Int) (l.take (k + 1)) = occN w (i : Int) (l.take k) + if hasA p (i : Int) = true then (w.rq p.req).len else 0 := by
              rw [take_get hp, occN_app]; simp only [occN]; omega
            simp only [rowP, rowR, Sl.v] at hr hq hh
            cases hha : hasA p (i : Int) with
            | false =>
              rw [hha] at hh
              rw [hha, if_neg (by decide), Int.add_zero] at hnx
              simp (maxSteps := 1000000) only [go_sem, b_l_ScheduleAntennas_l2, g1, g2, g16, lt_dec hk, hr, hh, hwk1, Nat.reduceEqDiff, Nat.reduceAdd, ↓reduceIte]
              refine ih _ _ ?_
              exact ⟨g1, g2, g3, g12, by rw [hnx]; exact g13, g14, rfl, bx, tk, rfl⟩
            | true =>
              rw [hha] at hh
              rw [hha, if_pos rfl] at hnx
              have w1 : IntKind.i64.wrap (occN w (i : Int) (l.take k) + (w.rq p.req).len) = occN w (i : Int) (l.take k) + (w.rq p.req).len := wrap_id (by omega) (by omega)
              simp (maxSteps := 1000000) only [go_sem, b_l_ScheduleAntennas_l2, g1, g2, g3, g13, g16, lt_dec hk, hr, hq, hh, hwk1, w1, Nat.reduceEqDiff, Nat.reduceAdd, ↓reduceIte]
              refine ih _ _ ?_
              exact ⟨g1, g2, g3, g12, by rw [hnx]; rfl, g14, rfl, bx, tk, rfl⟩
          · rintro ρ m ⟨g1, g2, g3, g12, g13, g14, g16, bx, tk, rfl⟩
            rw [List.take_length] at g13
            simp (maxSteps := 1000000) only [go_sem, b_l_ScheduleAntennas_l2, b_l_ScheduleAntennas_r3, g1, g16, ge_dec, Nat.reduceEqDiff, ↓reduceIte]
            refine k3 0 _ _ (Nat.zero_le _) ?_
            exact ⟨g2, g3, g12, g13, g14, rfl, bx, tk, rfl⟩
        -- the free slots
        have k1 : ∀ (k : Nat) ρ m, k ≤ FR.length → (ρ 1 = .slice o e (l.map rowP) ∧ ρ 2 = I i ∧ ρ 3 = .ptr s.acts.length 0 0 ∧ ρ 7 = XR.v rowG ∧ ρ 12 = I (sumR (FR.take k)) ∧ ρ 13 = I 0 ∧ ρ 14 = I 0 ∧ ρ 15 = I k ∧ ∃ bx tk, m = s.push ⟨rowW w :: bx, tk⟩) →
            go AP f_l_ScheduleAntennas (.c (.loop b_l_ScheduleAntennas_l3) :: k_l_ScheduleAntennas_3) ⟨ρ, m⟩ = some (B true, s) := by
          refine loop_up FR.length _ _ ?_ ?_
          · rintro k ρ m hk ⟨g1, g2, g3, g7, g12, g13, g14, g15, bx, tk, rfl⟩ ih
            obtain ⟨q, hq⟩ := get_some hk
            have hqi := hri q (List.mem_of_getElem? hq)
            have hqx := Sl.ix (f := rowG) hee (by rw [hXl]; exact hq)
            have hwk1 := wrap_succ hk (show (FR.length : Int) < _ by omega)
            obtain ⟨r1, r2⟩ := sumR_bd (n := n) (l := FR.take k) (fun p hp => by have := hri p (List.mem_of_mem_take hp); omega)
            have r3 : (n : Int) * (FR.take k).length ≤ 200 * 200 := by
              have h1 : (FR.take k).length ≤ 200 := by rw [List.length_take]; omega
              have := Nat.mul_le_mul (show n ≤ 200 by omega) h1
              have h2 : ((n * (FR.take k).length : Nat) : Int) ≤ 200 * 200 := by omega
              rwa [Int.natCast_mul] at h2
            have hnx : sumR (FR.take (k + 1)) = sumR (FR.take k) + q.2 - q.1 + 1 := by rw [take_get hq, sumR_app]; simp only [sumR]; omega
            have w1 : IntKind.i64.wrap (IntKind.i64.wrap (IntKind.i64.wrap (sumR (FR.take k) + q.2) - q.1) + 1) = sumR (FR.take k) + q.2 - q.1 + 1 := by
              rw [wrap_id (x := sumR (FR.take k) + q.2) (by omega) (by omega), wrap_id (x := sumR (FR.take k) + q.2 - q.1) (by omega) (by omega), wrap_id (by omega) (by omega)]
            simp only [rowG, Sl.v, hXl] at hqx g7
            simp (maxSteps := 1000000) only [go_sem, b_l_ScheduleAntennas_l3, g7, g12, g15, lt_dec hk, hqx, hwk1, w1, Nat.reduceEqDiff, Nat.reduceAdd, ↓reduceIte]
            refine ih _ _ ?_
            exact ⟨g1, g2, g3, by simp only [Sl.v, hXl]; exact g7, by rw [hnx]; rfl, g13, g14, rfl, bx, tk, rfl⟩
          · rintro ρ m ⟨g1, g2, g3, g7, g12, g13, g14, g15, bx, tk, rfl⟩
            rw [List.take_length] at g12
            simp only [Sl.v] at g7
            simp (maxSteps := 1000000) only [go_sem, b_l_ScheduleAntennas_l3, b_l_ScheduleAntennas_r4, g7, g15, hXl, ge_dec, Nat.reduceEqDiff, ↓reduceIte]
            refine k2 0 _ _ (Nat.zero_le _) ?_
            exact ⟨g1, g2, g3, g12, g13, g14, rfl, bx, tk, rfl⟩
        simp only [W.v, rowW, Sl.v] at hfe hcp hfo hlo hpe hrf hrl hrg k1
        rw [callL_go (show AP 3 = some c_l_ScheduleAntennas from rfl) rfl]
        simp (maxSteps := 1000000) only [go_sem, b_l_ScheduleAntennas, hs, haw, hfe, hf, hsh, hf2, hcp, hc1, hc2, hfo, hlo, hpe, hwm1, hbw, hrf, hrl, hrg, hqq, decide_true, ne_eq, not_true, Bool.not_true, Nat.reduceEqDiff, Nat.reduceAdd, ↓reduceIte]
        refine k1 0 _ _ (Nat.zero_le _) ?_
        exact ⟨rfl, rfl, rfl, rfl, rfl, rfl, rfl, rfl, _, _, rfl⟩
    · have hao : antsO w l a = (planE w l).2 := by unfold antsO; rw [if_neg h0]
      rw [hao, if_neg h0] at hfo
      rw [hao, if_neg h0, if_neg h0] at hlo
      have hnil : accV 2 (([] : List (Int × Int)).map rowG) = .slice .nilS 0 [] := rfl
      rw [hnil] at hfo
      simp only [W.v, rowW, Sl.v] at hfe hcp hfo hlo hpe
      rw [callL_go (show AP 3 = some c_l_ScheduleAntennas from rfl) rfl]
      simp (maxSteps := 1000000) only [go_sem, b_l_ScheduleAntennas, hs, haw, hfe, hf, hsh, hf2, hcp, hc1, hc2, hfo, hlo, hpe, h0, hq0, decide_true, decide_false, ne_eq, not_false_iff, Bool.not_true, Nat.reduceEqDiff, reduceCtorEq, Nat.reduceAdd, Int.cast_ofNat_Int, ↓reduceIte]
end
end Go.Ax.Sx.Sc

namespace Go.Ax.Sx.Sc
open Go.Ax

section
variable {P : Program} {d : Nat}

def Flds (P : Program) (t : TypeId) (ts : List TypeId) : Prop := ∃ fs : Array Field, P.underlying t = some (.struct fs) ∧ fs.toList.map (·.type) = ts

theorem shp_flds {t : TypeId} {ts : List TypeId} {avs : List AV} (hf : Flds P t ts) (h : Shp P (d + 1) t avs) :
    ∃ ps : List (List AV), avs = ps.flatten ∧ ps.length = ts.length ∧ ∀ (i : Nat) (u : TypeId) (p : List AV), ts[i]? = some u → ps[i]? = some p → Shp P d u p := by
  obtain ⟨fs, hu, rfl⟩ := hf
  obtain ⟨ps, h1, h2, h3⟩ := shp_struct hu h
  refine ⟨ps, h1, by simp [h2], fun i u p hi hp => ?_⟩
  rw [List.getElem?_map] at hi
  obtain ⟨f, hf, rfl⟩ := Option.map_eq_some_iff.1 hi
  exact h3 i f p (by simpa using hf) hp

/-- The types of a week. -/
structure WkT (P : Program) (ti ts tg tgs tis ta tas tr trs tw : TypeId) : Prop where
  i : P.underlying ti = some (.int .i64)
  s : P.underlying ts = some .string
  g : Flds P tg [ti, ti]
  gs : P.underlying tgs = some (.slice tg)
  gc : P.cellsOf tg = 2
  is : P.underlying tis = some (.slice ti)
  ic : P.cellsOf ti = 1
  a : Flds P ta [ts, ti, tgs]
  sa : P.underlying tas = some (.slice ta)
  ac : P.cellsOf ta = 3
  r : Flds P tr [ts, tg, ti, ti, tis, ti]
  sr : P.underlying trs = some (.slice tr)
  rc : P.cellsOf tr = 7
  w : Flds P tw [ti, tas, trs]

variable {ti ts tg tgs tis ta tas tr trs tw : TypeId}

theorem maxLen_lt {n : Nat} (h : n ≤ maxLen) : (n : Int) < 9223372036854775808 := by unfold maxLen at h; omega

theorem shp_rng (T : WkT P ti ts tg tgs tis ta tas tr trs tw) {avs : List AV} (h : Shp P (d + 2) tg avs) : ∃ x : Int × Int, avs = rowG x ∧ True := by
  obtain ⟨ps, rfl, hl, hp⟩ := shp_flds T.g h
  match ps, hl, hp with
  | [p0, p1], _, hp =>
    obtain ⟨a, rfl, _⟩ := shp_int T.i (hp 0 _ p0 rfl rfl)
    obtain ⟨b, rfl, _⟩ := shp_int T.i (hp 1 _ p1 rfl rfl)
    exact ⟨(a, b), rfl, trivial⟩

theorem own_ok {o : Own} {rows : List (List AV)} (h : o = .any ∨ (o = .nilS ∧ rows = [])) : o = .any ∨ (o = .nilS ∧ rows = []) := h

theorem shp_ints (T : WkT P ti ts tg tgs tis ta tas tr trs tw) {avs : List AV} (h : Shp P (d + 2) tis avs) : ∃ x : Sl Int, avs = [x.v rowI] ∧ x.ok 1 ∧ (x.l.length : Int) < 9223372036854775808 := by
  obtain ⟨o, rows, rfl, ho, hlen, hrows⟩ := shp_slice T.is h
  obtain ⟨l, rfl, _⟩ := rows_eq (f := rowI) (g := fun _ => True) (fun r hr => by
    obtain ⟨x, hx, _⟩ := shp_int T.i (hrows r hr)
    exact ⟨x, hx, trivial⟩)
  rw [List.length_map] at hlen
  rw [T.ic]
  refine ⟨⟨o, 1, l⟩, rfl, ?_, maxLen_lt hlen⟩
  rcases ho with rfl | ⟨rfl, h⟩
  · exact ⟨.inr rfl, .inl rfl⟩
  · exact ⟨.inr rfl, .inr (.inr ⟨rfl, List.map_eq_nil_iff.1 (by assumption)⟩)⟩

theorem shp_rngs (T : WkT P ti ts tg tgs tis ta tas tr trs tw) {avs : List AV} (h : Shp P (d + 3) tgs avs) : ∃ x : Sl (Int × Int), avs = [x.v rowG] ∧ x.ok 2 ∧ (x.l.length : Int) < 9223372036854775808 := by
  obtain ⟨o, rows, rfl, ho, hlen, hrows⟩ := shp_slice T.gs h
  obtain ⟨l, rfl, _⟩ := rows_eq (f := rowG) (g := fun _ => True) (fun r hr => shp_rng T (hrows r hr))
  rw [List.length_map] at hlen
  rw [T.gc]
  refine ⟨⟨o, 2, l⟩, rfl, ?_, maxLen_lt hlen⟩
  rcases ho with rfl | ⟨rfl, h⟩
  · exact ⟨.inr rfl, .inl rfl⟩
  · exact ⟨.inr rfl, .inr (.inr ⟨rfl, List.map_eq_nil_iff.1 (by assumption)⟩)⟩

theorem shp_ant (T : WkT P ti ts tg tgs tis ta tas tr trs tw) {avs : List AV} (h : Shp P (d + 4) ta avs) :
    ∃ a : A, avs = rowA a ∧ (a.cl.ok 2 ∧ (a.name.size : Int) < 9223372036854775808 ∧ (a.cl.l.length : Int) < 9223372036854775808) := by
  obtain ⟨ps, rfl, hl, hp⟩ := shp_flds T.a h
  match ps, hl, hp with
  | [p0, p1, p2], _, hp =>
    obtain ⟨n, rfl, hn⟩ := shp_str T.s (hp 0 _ p0 rfl rfl)
    obtain ⟨b, rfl, _⟩ := shp_int T.i (hp 1 _ p1 rfl rfl)
    obtain ⟨c, rfl, hc, hcl⟩ := shp_rngs T (hp 2 _ p2 rfl rfl)
    exact ⟨⟨n, b, c⟩, rfl, hc, maxLen_lt hn, hcl⟩

theorem shp_req (T : WkT P ti ts tg tgs tis ta tas tr trs tw) {avs : List AV} (h : Shp P (d + 4) tr avs) :
    ∃ r : R, avs = rowR r ∧ (r.an.ok 1 ∧ (r.mis.size : Int) < 9223372036854775808 ∧ (r.an.l.length : Int) < 9223372036854775808) := by
  obtain ⟨ps, rfl, hl, hp⟩ := shp_flds T.r h
  match ps, hl, hp with
  | [p0, p1, p2, p3, p4, p5], _, hp =>
    obtain ⟨n, rfl, hn⟩ := shp_str T.s (hp 0 _ p0 rfl rfl)
    obtain ⟨g, rfl, _⟩ := shp_rng T (hp 1 _ p1 rfl rfl)
    obtain ⟨b, rfl, _⟩ := shp_int T.i (hp 2 _ p2 rfl rfl)
    obtain ⟨c, rfl, _⟩ := shp_int T.i (hp 3 _ p3 rfl rfl)
    obtain ⟨x, rfl, hx, hxl⟩ := shp_ints T (hp 4 _ p4 rfl rfl)
    obtain ⟨e, rfl, _⟩ := shp_int T.i (hp 5 _ p5 rfl rfl)
    exact ⟨⟨n, g.1, g.2, b, c, x, e⟩, rfl, hx, maxLen_lt hn, hxl⟩

theorem shp_week (T : WkT P ti ts tg tgs tis ta tas tr trs tw) {avs : List AV} (h : Shp P (d + 6) tw avs) : ∃ w : W, AV.agg avs = w.v ∧ w.Ok ∧ w.Big := by
  obtain ⟨ps, rfl, hl, hp⟩ := shp_flds T.w h
  match ps, hl, hp with
  | [p0, p1, p2], _, hp =>
    obtain ⟨n, rfl, _⟩ := shp_int T.i (hp 0 _ p0 rfl rfl)
    obtain ⟨o1, r1, rfl, ho1, hl1, hr1⟩ := shp_slice T.sa (hp 1 _ p1 rfl rfl)
    obtain ⟨o2, r2, rfl, ho2, hl2, hr2⟩ := shp_slice T.sr (hp 2 _ p2 rfl rfl)
    obtain ⟨as, rfl, has⟩ := rows_eq (fun r hr => shp_ant T (hr1 r hr))
    obtain ⟨rs, rfl, hrs⟩ := rows_eq (fun r hr => shp_req T (hr2 r hr))
    rw [List.length_map] at hl1 hl2
    rw [T.ac, T.rc]
    refine ⟨⟨n, ⟨o1, 3, as⟩, ⟨o2, 7, rs⟩⟩, rfl, ⟨?_, fun a ha => (has a ha).1, ?_, fun r hr => (hrs r hr).1⟩, ⟨maxLen_lt hl1, maxLen_lt hl2, fun a ha => (has a ha).2.1, fun a ha => (has a ha).2.2, fun r hr => (hrs r hr).2.1, fun r hr => (hrs r hr).2.2⟩⟩
    · rcases ho1 with rfl | ⟨rfl, h⟩
      · exact ⟨.inr rfl, .inl rfl⟩
      · exact ⟨.inr rfl, .inr (.inr ⟨rfl, List.map_eq_nil_iff.1 (by assumption)⟩)⟩
    · rcases ho2 with rfl | ⟨rfl, h⟩
      · exact ⟨.inr rfl, .inl rfl⟩
      · exact ⟨.inr rfl, .inr (.inr ⟨rfl, List.map_eq_nil_iff.1 (by assumption)⟩)⟩
end
end Go.Ax.Sx.Sc

/-
  What a plan is among the values that an argument may read as.
-/
namespace Go.Ax.Sx.Sc
open Go.Ax

section
variable {P : Program} {d : Nat} {ti tis tp tps : TypeId}

/-- The types of a plan. -/
structure PlT (P : Program) (ti tis tp tps : TypeId) : Prop where
  i : P.underlying ti = some (.int .i64)
  ic : P.cellsOf ti = 1
  is : P.underlying tis = some (.slice ti)
  p : Flds P tp [ti, ti, tis]
  ps : P.underlying tps = some (.slice tp)
  pc : P.cellsOf tp = 3

theorem shp_ints2 (T : PlT P ti tis tp tps) {avs : List AV} (h : Shp P (d + 2) tis avs) : ∃ x : Sl Int, avs = [x.v rowI] ∧ x.ok 1 ∧ (x.l.length : Int) < 9223372036854775808 := by
  obtain ⟨o, rows, rfl, ho, hlen, hrows⟩ := shp_slice T.is h
  obtain ⟨l, rfl, _⟩ := rows_eq (f := rowI) (g := fun _ => True) (fun r hr => by
    obtain ⟨x, hx, _⟩ := shp_int T.i (hrows r hr)
    exact ⟨x, hx, trivial⟩)
  rw [List.length_map] at hlen
  rw [T.ic]
  refine ⟨⟨o, 1, l⟩, rfl, ?_, maxLen_lt hlen⟩
  rcases ho with rfl | ⟨rfl, h⟩
  · exact ⟨.inr rfl, .inl rfl⟩
  · exact ⟨.inr rfl, .inr (.inr ⟨rfl, List.map_eq_nil_iff.1 (by assumption)⟩)⟩

theorem shp_pass (T : PlT P ti tis tp tps) {avs : List AV} (h : Shp P (d + 4) tp avs) : ∃ p : Sc.P, avs = rowP p ∧ (p.an.ok 1 ∧ (p.an.l.length : Int) < 9223372036854775808) := by
  obtain ⟨ps, rfl, hl, hp⟩ := shp_flds T.p h
  match ps, hl, hp with
  | [p0, p1, p2], _, hp =>
    obtain ⟨a, rfl, _⟩ := shp_int T.i (hp 0 _ p0 rfl rfl)
    obtain ⟨b, rfl, _⟩ := shp_int T.i (hp 1 _ p1 rfl rfl)
    obtain ⟨x, rfl, hx, hxl⟩ := shp_ints2 T (hp 2 _ p2 rfl rfl)
    exact ⟨⟨a, b, x⟩, rfl, hx, hxl⟩

theorem shp_plan (T : PlT P ti tis tp tps) {avs : List AV} (h : Shp P (d + 5) tps avs) : ∃ (l : List Sc.P) (o : Own) (e : Nat), avs = [.slice o e (l.map rowP)] ∧ e = 3 ∧ PBig l := by
  obtain ⟨o, rows, rfl, ho, hlen, hrows⟩ := shp_slice T.ps h
  obtain ⟨l, rfl, hr⟩ := rows_eq (fun r hr => shp_pass T (hrows r hr))
  rw [List.length_map] at hlen
  rw [T.pc]
  exact ⟨l, o, 3, rfl, rfl, ⟨maxLen_lt hlen, fun p hp => (hr p hp).1, fun p hp => (hr p hp).2⟩⟩
end
end Go.Ax.Sx.Sc
